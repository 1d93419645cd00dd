/- The law ScopeRenames: its walk. -/
import Derived.Test.YtjikokmhknnnoaaRm
import Derived.Test.YtjikokmhknnnoaaLs
import Derived.Test.YtjikokmhknnnoaaQ69
namespace Go.Proofs.Ytjikokmhknnnoaa
open Go.RowKit

mutual
theorem dN_avoid (i : Nat) : ∀ t : Tr, (dN t).avoid i = true
 | .mk k n s c => by simp only [dN, D.avoid, D.avoids, dNs_avoid i c, Bool.and_true]
theorem dNs_avoid (i : Nat) : ∀ c : List Tr, D.avoids i (dNs c) = true
 | [] => rfl
 | t :: r => by simp only [dNs, D.avoids, dN_avoid i t, dNs_avoid i r, Bool.and_true]
end
theorem map_avoid {α : Type} {f : α → D} {i : Nat} (h : ∀ x, (f x).avoid i = true) (l : List α) : D.avoids i (l.map f) = true := by
 rw [D.avoids_all, List.all_eq_true]; intro x hx; obtain ⟨y, _, rfl⟩ := List.mem_map.1 hx; exact h y
theorem dNs_avoid2 (i : Nat) (c : List Tr) : D.avoids i (c.map dN) = true := map_avoid (dN_avoid i) c
theorem dVs_avoid (i : Nat) (c : List Vd) : D.avoids i (c.map dV) = true := map_avoid (fun _ => rfl) c
theorem dP_avoid (i : Nat) (p : Pr) : (dP p).avoid i = true := by simp only [dP, D.avoid, D.avoids, sl, dVs_avoid, dNs_avoid2, Bool.and_self]
theorem dPs_avoid (i : Nat) (c : List Pr) : D.avoids i (c.map dP) = true := map_avoid (dP_avoid i) c
theorem dG_avoid (i : Nat) (p : Pg) : (dG p).avoid i = true := by simp only [dG, D.avoid, D.avoids, sl, dVs_avoid, dPs_avoid, dNs_avoid2, Bool.and_self]

/-- the cells of declarations -/
def cV (l : List Vd) : List D := (l.map dV).flatMap D.cells
theorem cV_cons (v : Vd) (l : List Vd) : cV (v :: l) = .str v.name :: .int .u8 v.kind :: .int .i64 v.len :: cV l := rfl
theorem cV_len : ∀ l : List Vd, (cV l).length = l.length * 3
 | [] => rfl
 | v :: l => by rw [cV_cons]; simp only [zlc, cV_len l]; omega
theorem cV_at : ∀ (l : List Vd) (j : Nat) (h : j < l.length), (cV l).drop (j * 3) = .str l[j].name :: .int .u8 l[j].kind :: .int .i64 l[j].len :: (cV l).drop (j * 3 + 3)
 | [], _, h => absurd h (Nat.not_lt_zero _)
 | v :: l, 0, _ => rfl
 | v :: l, j + 1, h => by
  have ih := cV_at l j (by simpa using h)
  rw [cV_cons, show (j + 1) * 3 = j * 3 + 3 from by omega, show j * 3 + 3 + 3 = (j * 3 + 3) + 3 from rfl]
  simp only [zd1, List.getElem_cons_succ, ih]
theorem cV_get {l : List Vd} {j : Nat} (h : j < l.length) : ((cV l).drop (j * 3)).take 1 = [.str l[j].name] := by rw [cV_at l j h]; rfl
theorem cV_set : ∀ (l : List Vd) (j : Nat) (h : j < l.length) (x : ByteArray), (cV l).take (j * 3) ++ .str x :: (cV l).drop (j * 3 + 1) = cV (l.set j ⟨x, l[j].kind, l[j].len⟩)
 | [], _, h, _ => absurd h (Nat.not_lt_zero _)
 | v :: l, 0, _, x => rfl
 | v :: l, j + 1, h, x => by
  have ih := cV_set l j (by simpa using h) x
  rw [cV_cons, show (j + 1) * 3 = j * 3 + 3 from by omega, show j * 3 + 3 + 1 = (j * 3 + 1) + 3 from by omega]
  simp only [zt1, zd1, List.getElem_cons_succ, zs1, cV_cons, zca, ih]
theorem cV_av (i : Nat) : ∀ l : List Vd, D.avoids i (cV l) = true
 | [] => rfl
 | v :: l => by rw [cV_cons]; simp only [D.avoids, D.avoid, cV_av i l, Bool.and_true]
/-- the first j of them renamed -/
def rnK (a b : ByteArray) (vs : List Vd) (j : Nat) : List Vd := (vs.take j).map (rnV a b) ++ vs.drop j
theorem rnK_len (a b : ByteArray) (vs : List Vd) (j : Nat) : (rnK a b vs j).length = vs.length := by
 unfold rnK; rw [zla, zlm, List.length_take, List.length_drop]; omega
theorem rnK_at {a b : ByteArray} {vs : List Vd} {j : Nat} (h : j < vs.length) (h' : j < (rnK a b vs j).length) : (rnK a b vs j)[j] = vs[j] := by
 have : (rnK a b vs j)[j]? = some vs[j] := by
  unfold rnK
  rw [List.getElem?_append_right (by simp; omega), zlm, List.length_take, Nat.min_eq_left (Nat.le_of_lt h), Nat.sub_self, List.getElem?_drop, Nat.add_zero, List.getElem?_eq_getElem h]
 exact (List.getElem?_eq_some_iff.1 this).2
theorem rnK_step {a b : ByteArray} {vs : List Vd} {j : Nat} (h : j < vs.length) : (rnK a b vs j).set j (rnV a b vs[j]) = rnK a b vs (j + 1) := by
 unfold rnK
 rw [List.set_append_right _ _ (by simp; omega), List.drop_eq_getElem_cons h, List.take_succ_eq_append_getElem h, List.map_append]
 simp [Nat.min_eq_left (Nat.le_of_lt h)]
 rw [List.drop_eq_getElem_cons h, zs0]
theorem rnK_all (a b : ByteArray) (vs : List Vd) : rnK a b vs vs.length = vs.map (rnV a b) := by unfold rnK; simp
theorem rnV_no {a b : ByteArray} {v : Vd} (h : (v.name.toList == a.toList) = false) : rnV a b v = v := by unfold rnV rnN; rw [if_neg (by rw [h]; simp)]
theorem rnV_yes {a b : ByteArray} {v : Vd} (h : (v.name.toList == a.toList) = true) : rnV a b v = ⟨b, v.kind, v.len⟩ := by unfold rnV rnN; rw [if_pos h]
theorem set_self {l : List Vd} {j : Nat} (h : j < l.length) : l.set j l[j] = l := List.set_getElem_self h
def toN : ByteArray := ⟨#[117, 110, 117, 115, 101, 100, 57]⟩
theorem toN_name : nameB toN = true := by decide +kernel
theorem toN_ne : emptyB toN = false := by decide +kernel

/-- slots that a freezing of box i can turn -/
def Bs (i N : Nat) (d : D) : Prop := d.avoid i = true ∨ d = .bsl i 0 3 N ∨ ∃ k, k < N ∧ d = .bsl i (k * 3) 0 0
theorem Bs.fz {i : Nat} {l : List Vd} {d : D} (h : Bs i l.length d) : ∃ d', Fz i (cV l) d d' := by
 have h4 : ∀ d ∈ l.map dV, d.cells.length = 3 := fun d hd => by obtain ⟨x, _, rfl⟩ := List.mem_map.1 hd; rfl
 rcases h with h | rfl | ⟨k, hk, rfl⟩
 ·exact ⟨d, .keep d h⟩
 ·exact ⟨_, Fz.row (l := l.map dV) rfl (by simp) (by omega) h4⟩
 ·exact ⟨_, Fz.cell (l := l.map dV) (k := k) rfl rfl (by simpa using hk) h4⟩
inductive BsL (i N : Nat) : List D → Prop
 | nil : BsL i N []
 | cons {d : D} {l : List D} (h : Bs i N d) (t : BsL i N l) : BsL i N (d :: l)
theorem BsL.at {i N : Nat} {l : List D} (h : BsL i N l) : ∀ t : Nat, Bs i N (nthD l t) := by
 induction h with
 | nil => intro t; exact .inl rfl
 | cons h _ ih =>
  intro t
  cases t with
  | zero => exact h
  | succ t => exact ih t
theorem BsL.slot {i N : Nat} {fr : List D} {bx : List (List D)} {nx : Nat} {lv : List Nat} (h : BsL i N fr) : ∀ t, Bs i N (slotOf ⟨fr, bx, nx, lv⟩ t) := h.at
set_option maxRecDepth 100000 in
set_option maxHeartbeats 4000000 in
theorem law6_n (p : Pg) (k : Int) (hno : smallB p = false ∨ p.vars.length = 0) : fn EV 5 [dG p, .int .u8 k] = some (.bool true) := by
 refine fn_X rfl Try.func5 rfl (by simp only [plain, List.all_cons, List.all_nil, int_pl, dG_pl, Bool.and_true]) (rfl) (rfl) (rfl) ?_
 simp only [zmc, zmn, D.strip, dG_strip]
 simp only [enterSt, Try.ntmps5, zlc, zln, Nat.reduceAdd, Nat.reduceSub, zr1, zr0, zca, zna]
 refine X_seq ?_
 refine X_rg fun R hR => ?_
 simp only [aops, astep, awant, aeff, aop, ev, ofValue, St.put, zg0, zgd, zmo, if_true, zs1, zs0, zln, zna, dG_cells, dG_good]
 with_reducible refine hR _ ?_
 clear hR R
 show X _ _ _ _
 refine X_seq ?_
 refine X_seq ?_
 refine X_rg fun R hR => ?_
 simp only [EVP, aops, astep, awant, aeff, aop, ev, St.put, pcall, zmn, zg1, zg0, zgd, zmo, if_true, zs1, zs0, zna, Bool.not_true, any12, awake_ok]
 with_reducible refine hR _ ?_
 clear hR R
 show X _ _ _ _
 refine X_false (by simp only [ev, zg1, zg0, zgd]) ?_
 refine X_skip ?_
 show X _ _ _ _
 refine X_seq ?_
 refine X_seq ?_
 have hsm := small_fn p
 refine X_y ?_
 refine Y_k 4 fun R hR => ?_
 simp only [EVP, inr_i64, Int.reduceLE, Int.reduceNeg, aops, astep, awant, aeff, aop, abin, aint, mkD, ev, ofValue, St.put, pcall, zmc, zmn, zg1, zg0, zgd, zmo, if_true, zs1, zs0, zlc, zln, zd0, zt1, zt0, zca, zna, Nat.reduceAdd, Nat.reduceLeDiff, Nat.zero_add, and_self, ty_api_Program, any19, dG_agg, hsm, small_eq']
 with_reducible refine hR _ ?_
 clear hR R
 simp only [zd1, zd0]
 refine Y_if 20 (by simp only [ev, zg1, zg0, zgd]; exact rfl) ?_ ?_
 ·intro b1
  have c1 := b1
  try simp only [znt] at c1
  refine Y_end fun R hR => ?_
  simp only [EVP, inr_i64, Int.reduceLE, Int.reduceNeg, aops, astep, awant, aeff, aop, abin, ev, ofValue, St.put, zg1, zg0, zgd, zmo, Option.map_none, zbs, if_true, zs1, zs0, Nat.add_zero, zft, if_false, and_self, reduceCtorEq, bq_tf, ty_s_api_VarDecl, ty_api_Program, und_api_VarDecl, b1]
  with_reducible refine hR _ ?_
  clear hR R
  show X _ _ _ _
  refine X_true (by simp only [ev, zg1, zg0, zgd]) ?_
  refine X_seq ?_
  refine X_rg fun R hR => ?_
  simp only [aops, astep, awant, aeff, aop, ev, ofValue, St.put, zgd, zmo, if_true, zs1, zs0]
  with_reducible refine hR _ ?_
  clear hR R
  show X _ _ _ _
  refine X_ret ?_
  show resD _ _ _ = some _
  simp only [resD, resAll, resOne, resTup, Try.results5, EVP, zg1, zg0, D.good, if_true, zmo] <;> (first | (rfl; done) | (simp_all; done) | (exfalso; simp_all; done))
 ·intro b2
  have c2 := b2
  try simp only [znf] at c2
  refine Y_end fun R hR => ?_
  simp only [EVP, inr_i64, Int.reduceLE, Int.reduceNeg, aops, astep, awant, aeff, aop, abin, aint, mkD, ev, ofValue, St.put, ia_slice, zg1, zg0, zgd, zmo, zbs, if_true, zs1, zs0, zlm, zlc, zln, zd0, zt1, zt0, Nat.reduceAdd, Nat.reduceLeDiff, Nat.zero_add, Nat.add_zero, zft, if_false, and_self, reduceCtorEq, beq_self_eq_true, ty_s_api_VarDecl, ty_api_Program, und_api_VarDecl, b2]
  with_reducible refine hR _ ?_
  clear hR R
  show X _ _ _ _
  refine X_ite (by simp only [ev, zg1, zg0, zgd]; exact rfl) ?_ ?_
  ·intro b3
   have c3 := b3
   try simp only [beq_iff_eq] at c3
   refine X_seq ?_
   refine X_rg fun R hR => ?_
   simp only [aops, astep, awant, aeff, aop, ev, ofValue, St.put, zgd, zmo, if_true, zs1, zs0, b3]
   with_reducible refine hR _ ?_
   clear hR R
   show X _ _ _ _
   refine X_ret ?_
   show resD _ _ _ = some _
   simp only [resD, resAll, resOne, resTup, Try.results5, EVP, zg1, zg0, D.good, if_true, zmo] <;> (first | (rfl; done) | (simp_all; done) | (exfalso; simp_all; done))
  ·intro b4
   have c4 := b4
   try simp only [ne_eq, beq_eq_false_iff_ne] at c4
   exfalso
   have k1 : smallB p = true := by first | assumption | (simp_all; done)
   have k3 : ¬ p.vars.length = 0 := by first | omega | (simp_all; done)
   rcases hno with h | h
   ·rw [k1] at h; cases h
   ·exact k3 h
set_option maxRecDepth 100000 in
set_option maxHeartbeats 4000000 in
theorem law6_f (p : Pg) (k : Int) (hk0 : 0 ≤ k) (hk1 : k ≤ 255) (hsb : smallB p = true) (hv0 : 0 < p.vars.length) (hf : hasV p.vars toN = true) : fn EV 5 [dG p, .int .u8 k] = some (.bool true) := by
 obtain ⟨hvd, hp6, hv20, hm80⟩ := small_valid hsb
 have hj0 : k.toNat % p.vars.length < p.vars.length := Nat.mod_lt _ hv0
 have hkc := u8_conv hk0 hk1
 have htm := tmod_nat hk0 p.vars.length
 have hn3 : ((if (p.vars.map dV).isEmpty = true then 0 else 3) = 3) = True := eq_true (sl_n (j := 0) (by simpa using hv0))
 have ej : (p.vars.map dV)[k.toNat % p.vars.length]? = some (.agg [.str p.vars[k.toNat % p.vars.length].name, .int .u8 p.vars[k.toNat % p.vars.length].kind, .int .i64 p.vars[k.toNat % p.vars.length].len]) := by simp [hj0, dV]
 have hz : ((p.vars.length : Int) = 0) = False := eq_false (by omega)
 have esz : (if (ByteArray.mk #[117, 110, 117, 115, 101, 100, 57]).size ≤ 9223372036854775807 then some (D.str (ByteArray.mk #[117, 110, 117, 115, 101, 100, 57])) else none) = some (D.str toN) := if_pos (by simp [ByteArray.size])
 refine fn_X rfl Try.func5 rfl (by simp only [plain, List.all_cons, List.all_nil, int_pl, dG_pl, Bool.and_true]) (rfl) (rfl) (rfl) ?_
 simp only [zmc, zmn, D.strip, dG_strip]
 simp only [enterSt, Try.ntmps5, zlc, zln, Nat.reduceAdd, Nat.reduceSub, zr1, zr0, zca, zna]
 refine X_seq ?_
 refine X_rg fun R hR => ?_
 simp only [aops, astep, awant, aeff, aop, ev, ofValue, St.put, zg0, zgd, zmo, if_true, zs1, zs0, zln, zna, dG_cells, dG_good]
 with_reducible refine hR _ ?_
 clear hR R
 show X _ _ _ _
 refine X_seq ?_
 refine X_seq ?_
 refine X_rg fun R hR => ?_
 simp only [EVP, aops, astep, awant, aeff, aop, ev, St.put, pcall, zmn, zg1, zg0, zgd, zmo, if_true, zs1, zs0, zna, Bool.not_true, any12, awake_ok]
 with_reducible refine hR _ ?_
 clear hR R
 show X _ _ _ _
 refine X_false (by simp only [ev, zg1, zg0, zgd]) ?_
 refine X_skip ?_
 show X _ _ _ _
 refine X_seq ?_
 refine X_seq ?_
 have hsm := small_fn p
 rw [if_pos hsb] at hsm
 have hz3 : ((p.vars.length : Int) == 0) = false := by rw [beq_eq_false_iff_ne]; omega
 refine X_rg fun R hR => ?_
 simp only [EVP, inr_i64, Int.reduceLE, Int.reduceNeg, aops, astep, awant, aeff, aop, abin, aint, mkD, ev, ofValue, St.put, pcall, ia_slice, zmc, zmn, zg1, zg0, zgd, zmo, zbs, if_true, zs1, zs0, zlm, zlc, zln, zd0, zt1, zt0, zca, zna, Nat.reduceAdd, Nat.reduceLeDiff, Nat.zero_add, Nat.add_zero, zft, if_false, and_self, reduceCtorEq, beq_self_eq_true, Int.reduceBEq, ty_s_api_VarDecl, ty_api_Program, und_api_VarDecl, any19, dG_agg, hsm, hz3]
 with_reducible refine hR _ ?_
 clear hR R
 show X _ _ _ _
 refine X_false (by simp only [ev, zg1, zg0, zgd]) ?_
 refine X_skip ?_
 show X _ _ _ _
 refine X_seq ?_
 refine X_rg fun R hR => ?_
 simp only [EVP, nat_lt, nat_0, nat_to, aops, astep, awant, aeff, aop, abin, aint, mkD, ev, ofValue, St.put, ia_str, cl_str, ia_slice, zg1, zg0, zgd, zmo, if_true, zs1, zs0, zlm, zlc, zln, zd0, zt1, zt0, Nat.reduceAdd, Nat.reduceLeDiff, Nat.zero_add, Nat.add_zero, zft, if_false, and_self, reduceCtorEq, zis, ty_string, ty_s_api_VarDecl, ty_api_VarDecl, ty_api_Program, und_api_VarDecl, siz_api_VarDecl, inf_api_VarDecl_eq, und_int', und_uint8', hkc, htm, hn3, ej, hz, hj0, esz]
 with_reducible refine hR _ ?_
 clear hR R
 show X _ _ _ _
 refine X_seq ?_
 refine X_seq ?_
 have hfi := find_fn p.vars toN (by omega)
 rw [hasV_eq] at hfi
 simp only [sl] at hfi
 rw [hf] at hfi
 refine X_rg fun R hR => ?_
 simp only [EVP, aops, astep, awant, aeff, aop, mkD, astore, ev, St.put, pcall, ia_slice, zmc, zmn, zg1, zg0, zgd, zmo, zbs, if_true, zs1, zs0, zlc, zln, zd1, zd0, zt1, zt0, zca, zna, Nat.reduceAdd, Nat.reduceLeDiff, Nat.zero_add, Nat.add_zero, zft, if_false, and_self, reduceCtorEq, ty_s_api_VarDecl, ty_api_VarDecl, ty_api_Program, any13, dV_good, dV_cells, hfi]
 with_reducible refine hR _ ?_
 clear hR R
 show X _ _ _ _
 refine X_seq ?_
 have hme := ment_fn toN p.main.size p.main (Nat.le_refl _) (by omega)
 refine X_rg fun R hR => ?_
 simp only [EVP, aops, astep, awant, aeff, aop, ev, ofValue, St.put, pcall, zmc, zmn, zg1, zg0, zgd, zmo, Option.map_none, zbs, if_true, zs1, zs0, zca, zna, Nat.zero_add, zft, if_false, reduceCtorEq, bq_tf, ty_api_Node, ty_api_Program, any22]
 with_reducible refine hR _ ?_
 clear hR R
 show X _ _ _ _
 refine X_true (by simp only [ev, zg1, zg0, zgd]) ?_
 refine X_seq ?_
 refine X_rg fun R hR => ?_
 simp only [aops, astep, awant, aeff, aop, ev, ofValue, St.put, zgd, zmo, if_true, zs1, zs0]
 with_reducible refine hR _ ?_
 clear hR R
 show X _ _ _ _
 refine X_ret ?_
 show resD _ _ _ = some _
 simp only [resD, resAll, resOne, resTup, Try.results5, EVP, zg1, zg0, D.good, if_true, zmo] <;> (first | (rfl; done) | (simp_all; done) | (exfalso; simp_all; done))
set_option maxRecDepth 100000 in
set_option maxHeartbeats 4000000 in
theorem law6_m (p : Pg) (k : Int) (hk0 : 0 ≤ k) (hk1 : k ≤ 255) (hsb : smallB p = true) (hv0 : 0 < p.vars.length) (hf : hasV p.vars toN = false) (hm : mentB toN p.main = true) : fn EV 5 [dG p, .int .u8 k] = some (.bool true) := by
 obtain ⟨hvd, hp6, hv20, hm80⟩ := small_valid hsb
 have hj0 : k.toNat % p.vars.length < p.vars.length := Nat.mod_lt _ hv0
 have hkc := u8_conv hk0 hk1
 have htm := tmod_nat hk0 p.vars.length
 have hn3 : ((if (p.vars.map dV).isEmpty = true then 0 else 3) = 3) = True := eq_true (sl_n (j := 0) (by simpa using hv0))
 have ej : (p.vars.map dV)[k.toNat % p.vars.length]? = some (.agg [.str p.vars[k.toNat % p.vars.length].name, .int .u8 p.vars[k.toNat % p.vars.length].kind, .int .i64 p.vars[k.toNat % p.vars.length].len]) := by simp [hj0, dV]
 have hz : ((p.vars.length : Int) = 0) = False := eq_false (by omega)
 have esz : (if (ByteArray.mk #[117, 110, 117, 115, 101, 100, 57]).size ≤ 9223372036854775807 then some (D.str (ByteArray.mk #[117, 110, 117, 115, 101, 100, 57])) else none) = some (D.str toN) := if_pos (by simp [ByteArray.size])
 refine fn_X rfl Try.func5 rfl (by simp only [plain, List.all_cons, List.all_nil, int_pl, dG_pl, Bool.and_true]) (rfl) (rfl) (rfl) ?_
 simp only [zmc, zmn, D.strip, dG_strip]
 simp only [enterSt, Try.ntmps5, zlc, zln, Nat.reduceAdd, Nat.reduceSub, zr1, zr0, zca, zna]
 refine X_seq ?_
 refine X_rg fun R hR => ?_
 simp only [aops, astep, awant, aeff, aop, ev, ofValue, St.put, zg0, zgd, zmo, if_true, zs1, zs0, zln, zna, dG_cells, dG_good]
 with_reducible refine hR _ ?_
 clear hR R
 show X _ _ _ _
 refine X_seq ?_
 refine X_seq ?_
 refine X_rg fun R hR => ?_
 simp only [EVP, aops, astep, awant, aeff, aop, ev, St.put, pcall, zmn, zg1, zg0, zgd, zmo, if_true, zs1, zs0, zna, Bool.not_true, any12, awake_ok]
 with_reducible refine hR _ ?_
 clear hR R
 show X _ _ _ _
 refine X_false (by simp only [ev, zg1, zg0, zgd]) ?_
 refine X_skip ?_
 show X _ _ _ _
 refine X_seq ?_
 refine X_seq ?_
 have hsm := small_fn p
 rw [if_pos hsb] at hsm
 have hz3 : ((p.vars.length : Int) == 0) = false := by rw [beq_eq_false_iff_ne]; omega
 refine X_rg fun R hR => ?_
 simp only [EVP, inr_i64, Int.reduceLE, Int.reduceNeg, aops, astep, awant, aeff, aop, abin, aint, mkD, ev, ofValue, St.put, pcall, ia_slice, zmc, zmn, zg1, zg0, zgd, zmo, zbs, if_true, zs1, zs0, zlm, zlc, zln, zd0, zt1, zt0, zca, zna, Nat.reduceAdd, Nat.reduceLeDiff, Nat.zero_add, Nat.add_zero, zft, if_false, and_self, reduceCtorEq, beq_self_eq_true, Int.reduceBEq, ty_s_api_VarDecl, ty_api_Program, und_api_VarDecl, any19, dG_agg, hsm, hz3]
 with_reducible refine hR _ ?_
 clear hR R
 show X _ _ _ _
 refine X_false (by simp only [ev, zg1, zg0, zgd]) ?_
 refine X_skip ?_
 show X _ _ _ _
 refine X_seq ?_
 refine X_rg fun R hR => ?_
 simp only [EVP, nat_lt, nat_0, nat_to, aops, astep, awant, aeff, aop, abin, aint, mkD, ev, ofValue, St.put, ia_str, cl_str, ia_slice, zg1, zg0, zgd, zmo, if_true, zs1, zs0, zlm, zlc, zln, zd0, zt1, zt0, Nat.reduceAdd, Nat.reduceLeDiff, Nat.zero_add, Nat.add_zero, zft, if_false, and_self, reduceCtorEq, zis, ty_string, ty_s_api_VarDecl, ty_api_VarDecl, ty_api_Program, und_api_VarDecl, siz_api_VarDecl, inf_api_VarDecl_eq, und_int', und_uint8', hkc, htm, hn3, ej, hz, hj0, esz]
 with_reducible refine hR _ ?_
 clear hR R
 show X _ _ _ _
 refine X_seq ?_
 refine X_seq ?_
 have hfi := find_fn p.vars toN (by omega)
 rw [hasV_eq] at hfi
 simp only [sl] at hfi
 rw [hf] at hfi
 refine X_rg fun R hR => ?_
 simp only [EVP, aops, astep, awant, aeff, aop, mkD, astore, ev, St.put, pcall, ia_slice, zmc, zmn, zg1, zg0, zgd, zmo, zbs, if_true, zs1, zs0, zlc, zln, zd1, zd0, zt1, zt0, zca, zna, Nat.reduceAdd, Nat.reduceLeDiff, Nat.zero_add, Nat.add_zero, zft, if_false, and_self, reduceCtorEq, ty_s_api_VarDecl, ty_api_VarDecl, ty_api_Program, any13, dV_good, dV_cells, hfi]
 with_reducible refine hR _ ?_
 clear hR R
 show X _ _ _ _
 refine X_seq ?_
 have hme := ment_fn toN p.main.size p.main (Nat.le_refl _) (by omega)
 rw [hm] at hme
 refine X_rg fun R hR => ?_
 simp only [EVP, aops, astep, awant, aeff, aop, mkD, ev, ofValue, St.put, pcall, zmc, zmn, zg1, zg0, zgd, zmo, zbs, if_true, zs1, zs0, zlc, zln, zd1, zd0, zt1, zt0, zca, zna, Nat.reduceAdd, Nat.reduceLeDiff, Nat.zero_add, zft, if_false, reduceCtorEq, beq_self_eq_true, ty_api_Node, ty_api_Program, any22, dN_agg, hme]
 with_reducible refine hR _ ?_
 clear hR R
 show X _ _ _ _
 refine X_true (by simp only [ev, zg1, zg0, zgd]) ?_
 refine X_seq ?_
 refine X_rg fun R hR => ?_
 simp only [aops, astep, awant, aeff, aop, ev, ofValue, St.put, zgd, zmo, if_true, zs1, zs0]
 with_reducible refine hR _ ?_
 clear hR R
 show X _ _ _ _
 refine X_ret ?_
 show resD _ _ _ = some _
 simp only [resD, resAll, resOne, resTup, Try.results5, EVP, zg1, zg0, D.good, if_true, zmo] <;> (first | (rfl; done) | (simp_all; done) | (exfalso; simp_all; done))
set_option maxRecDepth 100000 in
set_option maxHeartbeats 8000000 in
theorem law6_y (p : Pg) (k : Int) (hk0 : 0 ≤ k) (hk1 : k ≤ 255) (hsb : smallB p = true) (hv0 : 0 < p.vars.length) (hf : hasV p.vars toN = false) (hm : mentB toN p.main = false) : PContract Try.prog 5 [dG p, .int .u8 k] (.bool true) := by
 obtain ⟨hvd, hp6, hv20, hm80⟩ := small_valid hsb
 have hj0 : k.toNat % p.vars.length < p.vars.length := Nat.mod_lt _ hv0
 have hkc := u8_conv hk0 hk1
 have htm := tmod_nat hk0 p.vars.length
 have hn3 : ((if (p.vars.map dV).isEmpty = true then 0 else 3) = 3) = True := eq_true (sl_n (j := 0) (by simpa using hv0))
 have ej : (p.vars.map dV)[k.toNat % p.vars.length]? = some (.agg [.str p.vars[k.toNat % p.vars.length].name, .int .u8 p.vars[k.toNat % p.vars.length].kind, .int .i64 p.vars[k.toNat % p.vars.length].len]) := by simp [hj0, dV]
 have hz : ((p.vars.length : Int) = 0) = False := eq_false (by omega)
 have esz : (if (ByteArray.mk #[117, 110, 117, 115, 101, 100, 57]).size ≤ 9223372036854775807 then some (D.str (ByteArray.mk #[117, 110, 117, 115, 101, 100, 57])) else none) = some (D.str toN) := if_pos (by simp [ByteArray.size])
 have hn3i : (if (p.vars.map dV).isEmpty = true then 0 else 3) = 3 := of_eq_true hn3
 obtain ⟨a, hae⟩ : ∃ a, p.vars[k.toNat % p.vars.length].name = a := ⟨_, rfl⟩
 have hmem : p.vars[k.toNat % p.vars.length] ∈ p.vars := List.getElem_mem hj0
 have hna : nameB a = true := by rw [← hae]; simp only [validB, zat, List.all_eq_true] at hvd; have := hvd.1.1.2 _ hmem; simp only [declB, zat] at this; exact this.1
 have hsa : a.toList ≠ [] := by have h := hna; simp only [nameB, zat, decide_eq_true_eq] at h; exact (ne_of_pos h.1.1.1.1).2
 have hea : emptyB a = false := by unfold emptyB; cases hq : a.toList with | nil => exact absurd hq hsa | cons x r => rfl
 have hab : (a.toList == toN.toList) = false := by rw [← hae]; exact has_b hf hmem
 have hblk : blockB p.main = true := by have h := hvd; simp only [validB, bodyB, zat] at h; exact h.2.2
 have hpw := check_rn (a := a) (b := toN) (p := p) (s := a) hab hf hm (block_w hsa p.main hblk)
 have hvq : validB (rnP a toN p) = true := by rw [valid_rn (by rw [hna, toN_name]) (by rw [hea, toN_ne])]; exact hvd
 refine S_pure (f := _) Try.func5 rfl (by show (((dG p).under 0 && (dG p).good) && (((D.int .u8 k).under 0 && (D.int .u8 k).good) && true)) = true; rw [dG_pl, int_pl]; rfl) (by show [(dG p).strip, (D.int .u8 k).strip] = _; rw [dG_strip]; rfl) ?_
 simp only [enterSt, Try.ntmps5, zlc, zln, Nat.reduceAdd, Nat.reduceSub, zr1, zr0, zca, zna]
 refine S_seq ?_
 refine S_of_X EV_ok (by kernel_rfl) ?_
 refine X_rg fun R hR => ?_
 simp only [aops, astep, awant, aeff, aop, ev, ofValue, St.put, zg0, zgd, zmo, if_true, zs1, zs0, zln, zna, dG_cells, dG_good]
 with_reducible refine hR _ ?_
 clear hR R
 show S _ _ _ _ _
 refine S_seq ?_
 refine S_seq ?_
 refine S_of_X EV_ok (by kernel_rfl) ?_
 refine X_rg fun R hR => ?_
 simp only [EVP, aops, astep, awant, aeff, aop, ev, St.put, pcall, zmn, zg1, zg0, zgd, zmo, if_true, zs1, zs0, zna, Bool.not_true, any12, awake_ok]
 with_reducible refine hR _ ?_
 clear hR R
 show S _ _ _ _ _
 refine S_false (by simp only [ev, zg1, zg0, zgd]) ?_
 refine S_skip ?_
 show S _ _ _ _ _
 refine S_seq ?_
 refine S_seq ?_
 have hsm := small_fn p
 rw [if_pos hsb] at hsm
 have hz3 : ((p.vars.length : Int) == 0) = false := by rw [beq_eq_false_iff_ne]; omega
 refine S_of_X EV_ok (by kernel_rfl) ?_
 refine X_rg fun R hR => ?_
 simp only [EVP, inr_i64, Int.reduceLE, Int.reduceNeg, aops, astep, awant, aeff, aop, abin, aint, mkD, ev, ofValue, St.put, pcall, ia_slice, zmc, zmn, zg1, zg0, zgd, zmo, zbs, if_true, zs1, zs0, zlm, zlc, zln, zd0, zt1, zt0, zca, zna, Nat.reduceAdd, Nat.reduceLeDiff, Nat.zero_add, Nat.add_zero, zft, if_false, and_self, reduceCtorEq, beq_self_eq_true, Int.reduceBEq, ty_s_api_VarDecl, ty_api_Program, und_api_VarDecl, any19, dG_agg, hsm, hz3]
 with_reducible refine hR _ ?_
 clear hR R
 show S _ _ _ _ _
 refine S_false (by simp only [ev, zg1, zg0, zgd]) ?_
 refine S_skip ?_
 show S _ _ _ _ _
 refine S_seq ?_
 have ha : p.vars[k.toNat % p.vars.length].name = a := hae
 refine S_of_X EV_ok (by kernel_rfl) ?_
 refine X_rg fun R hR => ?_
 simp only [EVP, nat_lt, nat_0, nat_to, aops, astep, awant, aeff, aop, abin, aint, mkD, ev, ofValue, St.put, ia_str, cl_str, ia_slice, zg1, zg0, zgd, zmo, if_true, zs1, zs0, zlm, zlc, zln, zd0, zt1, zt0, Nat.reduceAdd, Nat.reduceLeDiff, Nat.zero_add, Nat.add_zero, zft, if_false, and_self, reduceCtorEq, zis, ty_string, ty_s_api_VarDecl, ty_api_VarDecl, ty_api_Program, und_api_VarDecl, siz_api_VarDecl, inf_api_VarDecl_eq, und_int', und_uint8', hkc, htm, hn3, ej, hz, hj0, esz, hae]
 with_reducible refine hR _ ?_
 clear hR R
 show S _ _ _ _ _
 refine S_seq ?_
 refine S_seq ?_
 have hfi := find_fn p.vars toN (by omega)
 rw [hasV_eq] at hfi
 simp only [sl] at hfi
 rw [hf] at hfi
 refine S_of_X EV_ok (by kernel_rfl) ?_
 refine X_rg fun R hR => ?_
 simp only [EVP, aops, astep, awant, aeff, aop, mkD, astore, ev, St.put, pcall, ia_slice, zmc, zmn, zg1, zg0, zgd, zmo, zbs, if_true, zs1, zs0, zlc, zln, zd1, zd0, zt1, zt0, zca, zna, Nat.reduceAdd, Nat.reduceLeDiff, Nat.zero_add, Nat.add_zero, zft, if_false, and_self, reduceCtorEq, ty_s_api_VarDecl, ty_api_VarDecl, ty_api_Program, any13, dV_good, dV_cells, hfi]
 with_reducible refine hR _ ?_
 clear hR R
 show S _ _ _ _ _
 refine S_seq ?_
 have hme := ment_fn toN p.main.size p.main (Nat.le_refl _) (by omega)
 rw [hm] at hme
 refine S_of_X EV_ok (by kernel_rfl) ?_
 refine X_rg fun R hR => ?_
 simp only [EVP, aops, astep, awant, aeff, aop, mkD, ev, ofValue, St.put, pcall, zmc, zmn, zg1, zg0, zgd, zmo, zbs, if_true, zs1, zs0, zlc, zln, zd1, zd0, zt1, zt0, zca, zna, Nat.reduceAdd, Nat.reduceLeDiff, Nat.zero_add, zft, if_false, reduceCtorEq, beq_self_eq_true, ty_api_Node, ty_api_Program, any22, dN_agg, hme]
 with_reducible refine hR _ ?_
 clear hR R
 show S _ _ _ _ _
 refine S_false (by simp only [ev, zg1, zg0, zgd]) ?_
 refine S_skip ?_
 show S _ _ _ _ _
 refine S_seq ?_
 refine S_of_X EV_ok (by kernel_rfl) ?_
 refine X_rg fun R hR => ?_
 simp only [EVP, aops, astep, awant, aeff, aop, mkD, astore, ev, St.put, zg1, zg0, zgd, zmo, zbs, if_true, zs1, zs0, zlc, zln, zd1, zd0, zt1, zt0, zca, zna, Nat.reduceAdd, Nat.reduceLeDiff, Nat.zero_add, and_self, ty_api_Program, dG_agg, dG_cells, dG_good]
 with_reducible refine hR _ ?_
 clear hR R
 show S _ _ _ _ _
 refine S_seq ?_
 obtain ⟨z, hz0, hzs⟩ := Option.map_eq_some_iff.1 inf_api_VarDecl_zc
 refine S_ls ?_
 refine LS_ops EV_ok 3 (by kernel_rfl) fun R hR => ?_
 simp only [EVP, aops, astep, awant, aeff, aop, mkD, abuild, ev, ofValue, St.put, ia_slice, zmn, zg1, zg0, zgd, zmo, if_true, zs1, zs0, zlc, zln, zd0, zt1, zt0, Nat.reduceAdd, Nat.reduceLeDiff, Nat.reduceLT, Nat.zero_add, Nat.add_zero, zft, if_false, and_self, reduceCtorEq, List.all_nil, Nat.reduceMul, rng_0, ty_s_api_VarDecl, ty_api_Program, und_api_VarDecl, inf_api_VarDecl_eq, inf_api_VarDecl_size, inf_api_VarDecl_zero, inf_api_VarDecl_size]
 with_reducible refine hR _ ?_
 clear hR R
 simp only [zd1, zd0]
 refine LS_app (a := 52) (x := 54) (st := 0) (n2 := 3) (l := p.vars.map dV) (t := 22) (e := 34) (i := inf_api_VarDecl) (z := z) (q2 := .imm) rfl rfl rfl rfl rfl und_api_VarDecl inf_api_VarDecl_eq hz0 (hzs.trans inf_api_VarDecl_size.symm) (by rw [inf_api_VarDecl_size]; omega) (by rw [inf_api_VarDecl_bytes]; omega) (by rw [inf_api_VarDecl_size]; rfl) (by simp only [ev, zg1, zg0, zgd, hn3i]) inf_api_VarDecl_size.symm (by simp) (by simpa using Nat.ne_of_gt hv0) (by simp; omega) ?_
 rw [inf_api_VarDecl_size]
 simp only [St.put, zlm, zlc, zln, Nat.reduceAdd, zs1, zs0, zca, zna]
 refine LS_ops EV_ok 2 (by kernel_rfl) fun R hR => ?_
 simp only [EVP, aops, astep, awant, aeff, aop, astore, ev, St.put, gd_bsl, cl_bsl, zg1, zg0, zgd, zmo, if_true, zs1, zs0, zlc, zln, zd1, zd0, zt1, zt0, zca, zna, Nat.reduceAdd, Nat.reduceLeDiff, Nat.zero_add, Nat.add_zero, if_false, and_self, reduceCtorEq, ty_s_api_VarDecl, ty_api_Program]
 with_reducible refine hR _ ?_
 clear hR R
 simp only [zd1, zd0]
 refine LS_nil ?_
 show S _ _ _ _ _
 refine S_seq ?_
 refine S_seq ?_
 refine S_of_X EV_ok (by kernel_rfl) ?_
 refine X_rg fun R hR => ?_
 simp only [inr_i64, Int.reduceLE, Int.reduceNeg, aops, astep, awant, aeff, aop, ev, ofValue, St.put, zgd, zmo, if_true, zs1, zs0, and_self]
 with_reducible refine hR _ ?_
 clear hR R
 show S _ _ _ _ _
 refine S_block ?_
 refine S_loop (fun m σ => ∃ (j : Nat) (nx : Nat) (lv : List Nat), σ = ⟨[slotOf σ 0, slotOf σ 1, .ptr 0 0, slotOf σ 3, slotOf σ 4, .str a, .str toN, slotOf σ 7, slotOf σ 8, .ptr 2 0, .int .i64 j, slotOf σ 11, slotOf σ 12, slotOf σ 13, slotOf σ 14, slotOf σ 15, slotOf σ 16, slotOf σ 17, slotOf σ 18, slotOf σ 19, slotOf σ 20, slotOf σ 21, slotOf σ 22, slotOf σ 23, slotOf σ 24, slotOf σ 25, slotOf σ 26, slotOf σ 27, slotOf σ 28, slotOf σ 29, slotOf σ 30, slotOf σ 31, slotOf σ 32, slotOf σ 33, slotOf σ 34, slotOf σ 35, slotOf σ 36, slotOf σ 37, slotOf σ 38, slotOf σ 39, slotOf σ 40, slotOf σ 41, slotOf σ 42, slotOf σ 43, slotOf σ 44, slotOf σ 45, slotOf σ 46, slotOf σ 47, slotOf σ 48, slotOf σ 49, slotOf σ 50, slotOf σ 51, slotOf σ 52, slotOf σ 53, slotOf σ 54, slotOf σ 55, slotOf σ 56, slotOf σ 57, slotOf σ 58, slotOf σ 59, slotOf σ 60, slotOf σ 61, slotOf σ 62, slotOf σ 63, slotOf σ 64, slotOf σ 65, slotOf σ 66, slotOf σ 67, slotOf σ 68, slotOf σ 69, slotOf σ 70, slotOf σ 71, slotOf σ 72, slotOf σ 73, slotOf σ 74, slotOf σ 75, slotOf σ 76, slotOf σ 77, slotOf σ 78, slotOf σ 79, slotOf σ 80, slotOf σ 81, slotOf σ 82, slotOf σ 83, slotOf σ 84, slotOf σ 85, slotOf σ 86, slotOf σ 87, slotOf σ 88, slotOf σ 89, slotOf σ 90, slotOf σ 91, slotOf σ 92, slotOf σ 93, slotOf σ 94, slotOf σ 95, slotOf σ 96, slotOf σ 97, slotOf σ 98, slotOf σ 99, slotOf σ 100, slotOf σ 101, slotOf σ 102, slotOf σ 103, slotOf σ 104, slotOf σ 105, slotOf σ 106, slotOf σ 107, slotOf σ 108, slotOf σ 109, slotOf σ 110, slotOf σ 111, slotOf σ 112, slotOf σ 113, slotOf σ 114, slotOf σ 115, slotOf σ 116, slotOf σ 117, slotOf σ 118, slotOf σ 119, slotOf σ 120, slotOf σ 121, slotOf σ 122, slotOf σ 123, slotOf σ 124, slotOf σ 125, slotOf σ 126, slotOf σ 127, slotOf σ 128, slotOf σ 129, slotOf σ 130, slotOf σ 131, slotOf σ 132, slotOf σ 133, slotOf σ 134, slotOf σ 135, slotOf σ 136, slotOf σ 137, slotOf σ 138, slotOf σ 139, slotOf σ 140, slotOf σ 141, slotOf σ 142, slotOf σ 143, slotOf σ 144, slotOf σ 145, slotOf σ 146, slotOf σ 147, slotOf σ 148, slotOf σ 149, slotOf σ 150, slotOf σ 151, slotOf σ 152, slotOf σ 153, slotOf σ 154, slotOf σ 155, slotOf σ 156, slotOf σ 157, slotOf σ 158, slotOf σ 159, slotOf σ 160, slotOf σ 161, slotOf σ 162, slotOf σ 163, slotOf σ 164, slotOf σ 165, slotOf σ 166, slotOf σ 167, slotOf σ 168, slotOf σ 169, slotOf σ 170, slotOf σ 171, slotOf σ 172, slotOf σ 173, slotOf σ 174, slotOf σ 175, slotOf σ 176, slotOf σ 177, slotOf σ 178, slotOf σ 179, slotOf σ 180, slotOf σ 181, slotOf σ 182], [[.slice .imm (if (p.vars.map dV).isEmpty = true then 0 else 3) (p.vars.map dV), .slice .imm (if (p.procs.map dP).isEmpty = true then 0 else 6) (p.procs.map dP), .int .u8 p.main.kind, .int .i64 p.main.num, .str p.main.name, .slice .imm (if (p.main.kids.map dN).isEmpty = true then 0 else 4) (p.main.kids.map dN)], [.str (findN p.vars toN p.vars.length).1.name, .int .u8 (findN p.vars toN p.vars.length).1.kind, .int .i64 (findN p.vars toN p.vars.length).1.len], [.bsl 3 0 3 p.vars.length, .slice .imm (if (p.procs.map dP).isEmpty = true then 0 else 6) (p.procs.map dP), .int .u8 p.main.kind, .int .i64 p.main.num, .str p.main.name, .slice .imm (if (p.main.kids.map dN).isEmpty = true then 0 else 4) (p.main.kids.map dN)], cV (rnK a toN p.vars j)], nx, lv⟩ ∧ m = p.vars.length - j ∧ j ≤ p.vars.length ∧ ∀ t, Bs 3 p.vars.length (slotOf σ t)) ?_ (p.vars.length) ?_
 rotate_left
 ·exact ⟨0, _, _, rfl, rfl, Nat.zero_le _, (BsL.slot (by repeat first | exact .nil | apply BsL.cons (.inl rfl) | apply BsL.cons (hx _) | apply BsL.cons (.inr (.inl rfl)) | apply BsL.cons (.inr (.inr ⟨0, hv0, rfl⟩)) | apply BsL.cons (.inl (dG_avoid _ _)) | apply BsL.cons (.inl (dN_avoid _ _)) | apply BsL.cons (.inl (by (simp only [D.avoid, dVs_avoid]; done)))))⟩
 rintro m σ ⟨j, nx, lv, hσ, rfl, hj, hx⟩
 generalize slotOf σ = x at hσ hx
 subst hσ
 refine S_seq ?_
 refine S_seq ?_
 refine S_of_X EV_ok (by kernel_rfl) ?_
 refine X_rg fun R hR => ?_
 simp only [EVP, nat_lt, aops, astep, awant, aeff, aop, abin, aint, mkD, ev, St.put, ia_bsl, zg1, zg0, zgd, zmo, if_true, zs1, zs0, zlc, zln, zd0, zt1, zt0, Nat.reduceAdd, Nat.reduceLeDiff, Nat.reduceLT, Nat.zero_add, Nat.add_zero, zft, if_false, reduceCtorEq, ty_s_api_VarDecl, ty_api_Program, und_api_VarDecl]
 with_reducible refine hR _ ?_
 clear hR R
 show S _ _ _ _ _
 refine S_ite (by simp only [ev, zg1, zg0, zgd]; exact rfl) ?_ ?_
 ·intro b1
  have c1 := b1
  try simp only [decide_eq_true_eq] at c1
  refine S_skip ?_
  show S _ _ _ _ _
  refine S_seq ?_
  refine S_block ?_
  refine S_seq ?_
  have hjl : ((j : Int) < (p.vars.length : Int)) = True := eq_true (by omega)
  have hjlt : j < p.vars.length := by first | assumption | omega
  have hjl0 : (0 ≤ (j : Int)) = True := eq_true (by omega)
  have hjn : ((j : Int)).toNat = j := Int.toNat_natCast j
  have hkl : j < (rnK a toN p.vars j).length := by rw [rnK_len]; exact hjlt
  have hget := cV_get hkl
  rw [rnK_at hjlt hkl] at hget
  have hle : (j * 3 + 1 ≤ (cV (rnK a toN p.vars j)).length) = True := eq_true (by rw [cV_len, rnK_len]; omega)
  refine S_ls ?_
  refine LS_ops EV_ok 4 (by kernel_rfl) fun R hR => ?_
  simp only [EVP, aops, astep, awant, aeff, aop, mkD, ev, St.put, ia_bsl, zg1, zg0, zgd, zmo, if_true, zs1, zs0, zlc, zln, zd0, zt1, zt0, Nat.reduceAdd, Nat.reduceLeDiff, Nat.reduceLT, Nat.zero_add, Nat.add_zero, zft, if_false, and_self, reduceCtorEq, zis, ty_s_api_VarDecl, ty_api_Program, und_api_VarDecl, siz_api_VarDecl, inf_api_VarDecl_eq, b1, hjl, hjl0, hjn, Nat.zero_add, siz_api_VarDecl]
  with_reducible refine hR _ ?_
  clear hR R
  simp only [zd1, zd0]
  refine LS_field (i := 3) (off := j * 3) (ln := 0) (off' := j * 3) rfl rfl rfl (by simp only [EVP, aop, zg0, Nat.add_zero, if_false, reduceCtorEq, ty_api_VarDecl]; try rfl) ?_
  simp only [St.put, zs1, zs0]
  refine LS_load (i := 3) (off := j * 3) (ln := 0) rfl rfl rfl fun R hR => ?_
  simp only [EVP, aop, mkD, ia_str, zg1, zg0, if_true, zft, if_false, ty_string, hget, hle]
  with_reducible refine hR _ ?_
  clear hR R
  simp only [St.put, zs1, zs0]
  refine LS_ops EV_ok 2 (by kernel_rfl) fun R hR => ?_
  simp only [EVP, aops, astep, awant, aeff, aop, abin, astr, ev, St.put, zg1, zg0, zgd, zmo, if_true, zs1, zs0, zt1, zt0]
  with_reducible refine hR _ ?_
  clear hR R
  simp only [zd1, zd0]
  refine LS_nil ?_
  show S _ _ _ _ _
  refine S_ite (by simp only [ev, zg1, zg0, zgd]; exact rfl) ?_ ?_
  ·intro b2
   have c2 := b2
   try simp only [beq_iff_eq] at c2
   have hset := cV_set (rnK a toN p.vars j) j hkl toN
   have hyes : (p.vars[j].name.toList == a.toList) = true := by first | assumption | (simp_all; done)
   have h9 : (⟨toN, (rnK a toN p.vars j)[j].kind, (rnK a toN p.vars j)[j].len⟩ : Vd) = rnV a toN p.vars[j] := by rw [rnK_at hjlt hkl, rnV_yes hyes]
   rw [h9, rnK_step hjlt] at hset
   refine S_ls ?_
   refine LS_ops EV_ok 5 (by kernel_rfl) fun R hR => ?_
   simp only [EVP, aops, astep, awant, aeff, aop, mkD, ev, St.put, ia_bsl, zg1, zg0, zgd, zmo, if_true, zs1, zs0, zlc, zln, zd0, zt1, zt0, Nat.reduceAdd, Nat.reduceLeDiff, Nat.reduceLT, Nat.zero_add, Nat.add_zero, zft, if_false, and_self, reduceCtorEq, zis, ty_s_api_VarDecl, ty_api_Program, und_api_VarDecl, siz_api_VarDecl, inf_api_VarDecl_eq, b2, hjl, hjl0, hjn, Nat.zero_add, siz_api_VarDecl]
   with_reducible refine hR _ ?_
   clear hR R
   simp only [zd1, zd0]
   refine LS_field (i := 3) (off := j * 3) (ln := 0) (off' := j * 3) rfl rfl rfl (by simp only [EVP, aop, zg0, Nat.add_zero, if_false, reduceCtorEq, ty_api_VarDecl]; try rfl) ?_
   simp only [St.put, zs1, zs0]
   refine LS_ops EV_ok 1 (by kernel_rfl) fun R hR => ?_
   simp only [EVP, aops, astep, awant, aeff, astore, ev, St.put, gd_str, cl_str, zg1, zg0, zgd, zmo, if_true, zs1, zs0, zlc, zln, zt1, zt0, zca, zna, zaa, Nat.zero_add, and_self, ty_string, hset, hle, zca, zna, zaa]
   with_reducible refine hR _ ?_
   clear hR R
   simp only [zd1, zd0]
   refine LS_nil ?_
   show S _ _ _ _ _
   have hbig : j < 9223372036854775807 := by omega
   refine S_of_X EV_ok (by kernel_rfl) ?_
   refine X_rg fun R hR => ?_
   simp only [inr_i64, Int.reduceLE, Int.reduceNeg, aops, astep, awant, aeff, aop, abin, aint, ev, ofValue, St.put, zg1, zg0, zgd, zmo, if_true, zs1, zs0, and_self, nat_succ hbig]
   with_reducible refine hR _ ?_
   clear hR R
   show ∃ m, m < _ ∧ _
   exact ⟨p.vars.length - (j + 1), by omega, j + 1, _, _, rfl, rfl, by omega, (BsL.slot (by repeat first | exact .nil | apply BsL.cons (.inl rfl) | apply BsL.cons (hx _) | apply BsL.cons (.inr (.inl rfl)) | apply BsL.cons (.inr (.inr ⟨j, hjlt, rfl⟩)) | apply BsL.cons (.inl (dG_avoid _ _)) | apply BsL.cons (.inl (dN_avoid _ _)) | apply BsL.cons (.inl (by (simp only [D.avoid, D.avoids, dN_avoid, dG_avoid, dVs_avoid, dPs_avoid, dNs_avoid2, Bool.and_self, Bool.and_true, Bool.true_and]; done)))))⟩
  ·intro b3
   have c3 := b3
   try simp only [ne_eq, beq_eq_false_iff_ne] at c3
   refine S_skip ?_
   show S _ _ _ _ _
   have hbig : j < 9223372036854775807 := by omega
   refine S_of_X EV_ok (by kernel_rfl) ?_
   refine X_rg fun R hR => ?_
   simp only [inr_i64, Int.reduceLE, Int.reduceNeg, aops, astep, awant, aeff, aop, abin, aint, ev, ofValue, St.put, zg1, zg0, zgd, zmo, if_true, zs1, zs0, and_self, b3, nat_succ hbig]
   with_reducible refine hR _ ?_
   clear hR R
   show ∃ m, m < _ ∧ _
   have hno : (p.vars[j].name.toList == a.toList) = false := by first | assumption | (simp_all; done)
   have hsame : rnK a toN p.vars (j + 1) = rnK a toN p.vars j := by rw [← rnK_step hjlt, rnV_no hno, ← rnK_at hjlt hkl, set_self hkl]
   exact ⟨p.vars.length - (j + 1), by omega, j + 1, _, _, by rw [hsame]; rfl, rfl, by omega, (BsL.slot (by repeat first | exact .nil | apply BsL.cons (.inl rfl) | apply BsL.cons (hx _) | apply BsL.cons (.inr (.inl rfl)) | apply BsL.cons (.inr (.inr ⟨j, hjlt, rfl⟩)) | apply BsL.cons (.inl (dG_avoid _ _)) | apply BsL.cons (.inl (dN_avoid _ _)) | apply BsL.cons (.inl (by (simp only [D.avoid, D.avoids, dN_avoid, dG_avoid, dVs_avoid, dPs_avoid, dNs_avoid2, Bool.and_self, Bool.and_true, Bool.true_and]; done)))))⟩
 ·intro b4
  have c4 := b4
  try simp only [decide_eq_false_iff_not] at c4
  refine S_exit ?_
  show S _ _ _ _ _
  refine S_seq ?_
  have hjq : j = p.vars.length := by first | omega | (simp_all; omega)
  subst hjq
  rw [rnK_all]
  have hx2 : ∀ t, ∃ d, Fz 3 (cV (p.vars.map (rnV a toN))) (x t) d := fun t => Bs.fz (by rw [zlm]; exact hx t)
  obtain ⟨y, hy⟩ := Classical.axiomOfChoice hx2
  have hL3 : ∀ d ∈ (p.vars.map (rnV a toN)).map dV, d.cells.length = 3 := fun d hd => by obtain ⟨v, _, rfl⟩ := List.mem_map.1 hd; rfl
  have hrow : Fz 3 (cV (p.vars.map (rnV a toN))) (.bsl 3 0 3 p.vars.length) (.slice .imm 3 ((p.vars.map (rnV a toN)).map dV)) := Fz.row rfl (by simp) (by omega) hL3
  apply S_freeze (i := 3) (t0 := 59) (d0 := .bsl 3 0 3 p.vars.length) (cs := cV (p.vars.map (rnV a toN))) (Nat.zero_le _) rfl (.inr ⟨_, _, _, rfl⟩) rfl (cV_av 3 _)
  ·dsimp only
   repeat first
     | exact .nil
     | apply FzL.cons (.keep _ rfl)
     | apply FzL.cons (hy _)
     | apply FzL.cons hrow
  ·dsimp only
   repeat first
     | exact .nil _
     | apply FzB.self (c' := []) rfl
     | apply FzB.turn (t0 := 9) (off := 0) (.cons hrow (FzL.same (by (simp only [D.avoid, D.avoids, dPs_avoid, dNs_avoid2, Bool.and_self]; done)))) rfl
     | apply FzB.keep rfl
     | apply FzB.keep (by (simp only [D.avoid, D.avoids, dVs_avoid, dPs_avoid, dNs_avoid2, Bool.and_self]; done))
  show S _ _ _ _ _
  have hre := rename_fn a toN p.main (by omega)
  refine S_of_X EV_ok (by kernel_rfl) ?_
  refine X_rg fun R hR => ?_
  simp only [EVP, aops, astep, awant, aeff, aop, mkD, astore, ev, St.put, pcall, zmc, zmn, zg1, zg0, zgd, zmo, if_true, zs1, zs0, zlc, zln, zd1, zd0, zt1, zt0, zca, zna, Nat.reduceAdd, Nat.reduceLeDiff, Nat.zero_add, if_false, and_self, reduceCtorEq, ty_api_Node, ty_api_Program, any23, dN_agg, dN_cells, dN_good, sl, b4, hre, dN_cells]
  with_reducible refine hR _ ?_
  clear hR R
  show S _ _ _ _ _
  refine S_seq ?_
  have hc1 := check_fn p
  rw [if_pos hvd] at hc1
  have hc2 := check_fn (rnP a toN p)
  rw [if_pos hvq] at hc2
  rw [show dG (rnP a toN p) = .agg [.slice .imm 3 ((p.vars.map (rnV a toN)).map dV), .slice .imm (if (p.procs.map dP).isEmpty = true then 0 else 6) (p.procs.map dP), .int .u8 (rnT a toN p.main).kind, .int .i64 (rnT a toN p.main).num, .str (rnT a toN p.main).name, .slice .imm (if ((rnT a toN p.main).kids.map dN).isEmpty = true then 0 else 4) ((rnT a toN p.main).kids.map dN)] from by unfold dG rnP; simp only [sl]; rw [sl_n (j := 0) (by simpa using hv0)]] at hc2
  obtain ⟨q1, q2⟩ := checkF_bd hvd
  generalize checkF p = L at hc1 q1 q2 hpw
  generalize checkF (rnP a toN p) = M at hc2 hpw
  have hlm := hpw.len
  simp only [sl] at hc1 hc2
  refine S_of_X EV_ok (by kernel_rfl) ?_
  refine X_rg fun R hR => ?_
  simp only [EVP, aops, astep, awant, aeff, aop, mkD, ev, St.put, pcall, zmc, zmn, zg1, zg0, zgd, zmo, if_true, zs1, zs0, zlc, zln, zd0, zt1, zt0, zca, zna, Nat.reduceAdd, Nat.reduceLeDiff, Nat.zero_add, ty_api_Program, any18, dG_agg, hc1, hc2]
  with_reducible refine hR _ ?_
  clear hR R
  show S _ _ _ _ _
  refine S_seq ?_
  refine S_seq ?_
  have hlm2 : ((M.length : Int) != (M.length : Int)) = false := bne_self_eq_false _
  refine S_of_X EV_ok (by kernel_rfl) ?_
  refine X_rg fun R hR => ?_
  simp only [EVP, aops, astep, awant, aeff, aop, abin, aint, ev, St.put, zg1, zg0, zgd, zmo, if_true, zs1, zs0, zlm, bne_self_eq_false, und_scope_Fault, hlm, bne_self_eq_false]
  with_reducible refine hR _ ?_
  clear hR R
  show S _ _ _ _ _
  refine S_false (by simp only [ev, zg1, zg0, zgd]) ?_
  refine S_skip ?_
  show S _ _ _ _ _
  refine S_seq ?_
  refine S_seq ?_
  refine S_of_X EV_ok (by kernel_rfl) ?_
  refine X_rg fun R hR => ?_
  simp only [inr_i64, Int.reduceLE, Int.reduceNeg, aops, astep, awant, aeff, aop, ev, ofValue, St.put, zgd, zmo, if_true, zs1, zs0, and_self]
  with_reducible refine hR _ ?_
  clear hR R
  show S _ _ _ _ _
  refine S_block ?_
  refine S_loop (fun m σ => ∃ (i : Nat) (r : List (List D)) (nx : Nat) (lv : List Nat), σ = ⟨[slotOf σ 0, slotOf σ 1, .ptr 0 0, slotOf σ 3, slotOf σ 4, .str a, .str toN, slotOf σ 7, slotOf σ 8, slotOf σ 9, slotOf σ 10, .slice .imm (if (L.map dFt).isEmpty = true then 0 else 4) (L.map dFt), .slice .imm (if (M.map dFt).isEmpty = true then 0 else 4) (M.map dFt), .int .i64 i, slotOf σ 14, slotOf σ 15, slotOf σ 16, slotOf σ 17, slotOf σ 18, slotOf σ 19, slotOf σ 20, slotOf σ 21, slotOf σ 22, slotOf σ 23, slotOf σ 24, slotOf σ 25, slotOf σ 26, slotOf σ 27, slotOf σ 28, slotOf σ 29, slotOf σ 30, slotOf σ 31, slotOf σ 32, slotOf σ 33, slotOf σ 34, slotOf σ 35, slotOf σ 36, slotOf σ 37, slotOf σ 38, slotOf σ 39, slotOf σ 40, slotOf σ 41, slotOf σ 42, slotOf σ 43, slotOf σ 44, slotOf σ 45, slotOf σ 46, slotOf σ 47, slotOf σ 48, slotOf σ 49, slotOf σ 50, slotOf σ 51, slotOf σ 52, slotOf σ 53, slotOf σ 54, slotOf σ 55, slotOf σ 56, slotOf σ 57, slotOf σ 58, slotOf σ 59, slotOf σ 60, slotOf σ 61, slotOf σ 62, slotOf σ 63, slotOf σ 64, slotOf σ 65, slotOf σ 66, slotOf σ 67, slotOf σ 68, slotOf σ 69, slotOf σ 70, slotOf σ 71, slotOf σ 72, slotOf σ 73, slotOf σ 74, slotOf σ 75, slotOf σ 76, slotOf σ 77, slotOf σ 78, slotOf σ 79, slotOf σ 80, slotOf σ 81, slotOf σ 82, slotOf σ 83, slotOf σ 84, slotOf σ 85, slotOf σ 86, slotOf σ 87, slotOf σ 88, slotOf σ 89, slotOf σ 90, slotOf σ 91, slotOf σ 92, slotOf σ 93, slotOf σ 94, slotOf σ 95, slotOf σ 96, slotOf σ 97, slotOf σ 98, slotOf σ 99, slotOf σ 100, slotOf σ 101, slotOf σ 102, slotOf σ 103, slotOf σ 104, slotOf σ 105, slotOf σ 106, slotOf σ 107, slotOf σ 108, slotOf σ 109, slotOf σ 110, slotOf σ 111, slotOf σ 112, slotOf σ 113, slotOf σ 114, slotOf σ 115, slotOf σ 116, slotOf σ 117, slotOf σ 118, slotOf σ 119, slotOf σ 120, slotOf σ 121, slotOf σ 122, slotOf σ 123, slotOf σ 124, slotOf σ 125, slotOf σ 126, slotOf σ 127, slotOf σ 128, slotOf σ 129, slotOf σ 130, slotOf σ 131, slotOf σ 132, slotOf σ 133, slotOf σ 134, slotOf σ 135, slotOf σ 136, slotOf σ 137, slotOf σ 138, slotOf σ 139, slotOf σ 140, slotOf σ 141, slotOf σ 142, slotOf σ 143, slotOf σ 144, slotOf σ 145, slotOf σ 146, slotOf σ 147, slotOf σ 148, slotOf σ 149, slotOf σ 150, slotOf σ 151, slotOf σ 152, slotOf σ 153, slotOf σ 154, slotOf σ 155, slotOf σ 156, slotOf σ 157, slotOf σ 158, slotOf σ 159, slotOf σ 160, slotOf σ 161, slotOf σ 162, slotOf σ 163, slotOf σ 164, slotOf σ 165, slotOf σ 166, slotOf σ 167, slotOf σ 168, slotOf σ 169, slotOf σ 170, slotOf σ 171, slotOf σ 172, slotOf σ 173, slotOf σ 174, slotOf σ 175, slotOf σ 176, slotOf σ 177, slotOf σ 178, slotOf σ 179, slotOf σ 180, slotOf σ 181, slotOf σ 182], [.slice .imm (if (p.vars.map dV).isEmpty = true then 0 else 3) (p.vars.map dV), .slice .imm (if (p.procs.map dP).isEmpty = true then 0 else 6) (p.procs.map dP), .int .u8 p.main.kind, .int .i64 p.main.num, .str p.main.name, .slice .imm (if (p.main.kids.map dN).isEmpty = true then 0 else 4) (p.main.kids.map dN)] :: r, nx, lv⟩ ∧ m = L.length - i ∧ i ≤ L.length) ?_ (L.length) ?_
  rotate_left
  ·exact ⟨0, _, _, _, rfl, rfl, Nat.zero_le _⟩
  rintro m σ ⟨i, r, nx, lv, hσ, rfl, hi⟩
  generalize slotOf σ = x at hσ
  subst hσ
  refine S_seq ?_
  refine S_seq ?_
  refine S_of_X EV_ok (by kernel_rfl) ?_
  refine X_rg fun R hR => ?_
  simp only [EVP, nat_lt, aops, astep, awant, aeff, aop, abin, aint, ev, St.put, zg1, zg0, zgd, zmo, if_true, zs1, zs0, zlm, und_scope_Fault]
  with_reducible refine hR _ ?_
  clear hR R
  show S _ _ _ _ _
  refine S_ite (by simp only [ev, zg1, zg0, zgd]; exact rfl) ?_ ?_
  ·intro b5
   have c5 := b5
   try simp only [decide_eq_true_eq] at c5
   refine S_skip ?_
   show S _ _ _ _ _
   refine S_seq ?_
   refine S_block ?_
   refine S_seq ?_
   have hlt : i < L.length := by first | assumption | omega
   have hltm : i < M.length := by omega
   have hn4 : ((if (L.map dFt).isEmpty = true then 0 else 4) = 4) = True := eq_true (sl_n (j := i) (by simpa using hlt))
   have hn5 : ((if (M.map dFt).isEmpty = true then 0 else 4) = 4) = True := eq_true (sl_n (j := i) (by simpa using hltm))
   obtain ⟨h1, h2, h3, h4⟩ := hpw.at i hlt hltm
   have e1 : (L.map dFt)[i]? = some (.agg [.int .i64 L[i].proc, .slice .imm (if (L[i].path.map dI).isEmpty = true then 0 else 1) (L[i].path.map dI), .int .i64 L[i].err, .str L[i].name]) := by rw [List.getElem?_map, List.getElem?_eq_getElem hlt]; rfl
   have e2 : (M.map dFt)[i]? = some (.agg [.int .i64 L[i].proc, .slice .imm (if (L[i].path.map dI).isEmpty = true then 0 else 1) (L[i].path.map dI), .int .i64 L[i].err, .str M[i].name]) := by rw [List.getElem?_map, List.getElem?_eq_getElem hltm, h1, h2, h3]; rfl
   refine S_of_X EV_ok (by kernel_rfl) ?_
   refine X_rg fun R hR => ?_
   simp only [EVP, nat_lt, nat_0, nat_to, aops, astep, awant, aeff, aop, ev, St.put, ia_str, cl_str, zg1, zg0, zgd, zmo, if_true, zs1, zs0, zlm, zlc, zln, zd1, zd0, zt1, zt0, Nat.reduceAdd, Nat.reduceLeDiff, Nat.zero_add, zft, if_false, and_self, reduceCtorEq, decide_true, zis, ty_string, ty_scope_Fault, und_scope_Fault, siz_scope_Fault, inf_scope_Fault_eq, hlt, hn4, e1]
   with_reducible refine hR _ ?_
   clear hR R
   show S _ _ _ _ _
   refine S_seq ?_
   refine S_seq ?_
   refine S_of_X EV_ok (by kernel_rfl) ?_
   refine X_y ?_
   refine Y_k 4 fun R hR => ?_
   simp only [EVP, Int.reduceNeg, aops, astep, awant, aeff, aop, abin, astr, ev, St.put, zg1, zg0, zgd, zmo, if_true, zs1, zs0, zt1, zt0]
   with_reducible refine hR _ ?_
   clear hR R
   simp only [zd1, zd0]
   refine Y_if 107 (by simp only [ev, zg1, zg0, zgd]; exact rfl) ?_ ?_
   ·intro b6
    have c6 := b6
    try simp only [beq_iff_eq] at c6
    refine Y_k 7 fun R hR => ?_
    simp only [EVP, inr_i64, Int.reduceLE, Int.reduceNeg, nat_lt, nat_0, nat_to, aops, astep, awant, aeff, aop, abin, aint, ev, ofValue, St.put, ia_int, cl_int, zg1, zg0, zgd, zmo, zbs, if_true, zs1, zs0, zlm, zlc, zln, zd0, zt1, zt0, Nat.reduceAdd, Nat.reduceLeDiff, Nat.zero_add, zft, if_false, and_self, reduceCtorEq, beq_self_eq_true, zis, ty_int, ty_scope_Fault, und_scope_Fault, siz_scope_Fault, inf_scope_Fault_eq, b6, hlt, hn4, e1]
    with_reducible refine hR _ ?_
    clear hR R
    simp only [zd1, zd0]
    refine Y_if 114 (by simp only [ev, zg1, zg0, zgd]; exact rfl) ?_ ?_
    ·intro b7
     have c7 := b7
     try simp only [beq_iff_eq] at c7
     refine Y_end fun R hR => ?_
     simp only [EVP, Int.reduceNeg, aops, astep, awant, aeff, aop, abin, ev, ofValue, St.put, zg1, zg0, zgd, zmo, Option.map_none, zbs, if_true, zs1, zs0, Nat.zero_add, zft, if_false, reduceCtorEq, beq_self_eq_true, bq_tf, ty_int, ty_string, ty_s_api_Proc, ty_api_Program, und_api_Proc, ty_scope_Fault, und_scope_Fault, b7]
     with_reducible refine hR _ ?_
     clear hR R
     show S _ _ _ _ _
     refine S_true (by simp only [ev, zg1, zg0, zgd]) ?_
     refine S_of_X EV_ok (by kernel_rfl) ?_
     refine X_rg fun R hR => ?_
     simp only [aops, astep, awant, aeff, aop, ev, St.put, zg1, zg0, zgd, zmo, if_true, zs1, zs0]
     with_reducible refine hR _ ?_
     clear hR R
     show S _ _ _ _ _
     refine S_seq ?_
     have hin := ints_fn L[i].path L[i].path (Nat.le_trans (q2 _ (List.getElem_mem hlt)) (by omega))
     rw [decide_eq_true rfl] at hin
     simp only [sl] at hin
     have hnm : M[i].name = toN := by rw [h4]; rw [if_pos]; first | (simp [b6, b7]; done) | (simp_all; done)
     rw [hnm] at e2
     refine S_of_X EV_ok (by kernel_rfl) ?_
     refine X_rg fun R hR => ?_
     simp only [EVP, nat_lt, nat_0, nat_to, aops, astep, awant, aeff, aop, abin, aint, astr, ev, ofValue, St.put, pcall, ia_int, cl_int, ia_str, cl_str, ia_slice, cl_slice, zmc, zmn, zg1, zg0, zgd, zmo, zbs, if_true, zs1, zs0, zlm, zlc, zln, zd1, zd0, zt1, zt0, zca, zna, Nat.reduceAdd, Nat.reduceLeDiff, Nat.zero_add, Bool.not_true, zft, if_false, and_self, reduceCtorEq, beq_self_eq_true, bne_self_eq_false, zis, ty_int, ty_string, ty_s_int, ty_api_Errno, ty_scope_Fault, und_scope_Fault, siz_scope_Fault, inf_scope_Fault_eq, any24, hlt, hltm, hn4, hn5, e1, e2, hin, bne_self_eq_false]
     with_reducible refine hR _ ?_
     clear hR R
     show S _ _ _ _ _
     refine S_false (by simp only [ev, zg1, zg0, zgd]) ?_
     refine S_skip ?_
     show S _ _ _ _ _
     have hbig : i < 9223372036854775807 := by omega
     refine S_of_X EV_ok (by kernel_rfl) ?_
     refine X_rg fun R hR => ?_
     simp only [inr_i64, Int.reduceLE, Int.reduceNeg, aops, astep, awant, aeff, aop, abin, aint, ev, ofValue, St.put, zg1, zg0, zgd, zmo, if_true, zs1, zs0, and_self, nat_succ hbig]
     with_reducible refine hR _ ?_
     clear hR R
     show ∃ m, m < _ ∧ _
     exact ⟨L.length - (i + 1), by omega, i + 1, _, _, _, rfl, rfl, by omega⟩
    ·intro b8
     have c8 := b8
     try simp only [ne_eq, beq_eq_false_iff_ne] at c8
     refine Y_k 10 fun R hR => ?_
     simp only [EVP, Int.reduceNeg, nat_lt, nat_0, nat_to, aops, astep, awant, aeff, aop, abin, aint, mkD, ev, St.put, ia_int, cl_int, ia_slice, zg1, zg0, zgd, zmo, zbs, if_true, zs1, zs0, zlm, zlc, zln, zd1, zd0, zt1, zt0, Nat.reduceAdd, Nat.reduceLeDiff, Nat.zero_add, zft, if_false, and_self, reduceCtorEq, beq_self_eq_true, zis, ty_int, ty_s_api_Proc, ty_api_Program, und_api_Proc, ty_scope_Fault, und_scope_Fault, siz_scope_Fault, inf_scope_Fault_eq, b8, hlt, hn4, e1]
     with_reducible refine hR _ ?_
     clear hR R
     simp only [zd1, zd0]
     refine Y_if 124 (by simp only [ev, zg1, zg0, zgd]; exact rfl) ?_ ?_
     ·intro b9
      have c9 := b9
      try simp only [beq_iff_eq] at c9
      refine Y_end fun R hR => ?_
      simp only [EVP, Int.reduceNeg, nat_lt, nat_0, nat_to, aops, astep, awant, aeff, aop, abin, astr, ev, ofValue, St.put, ia_str, cl_str, zg1, zg0, zgd, zmo, zbs, if_true, zs1, zs0, zlm, zlc, zln, zd1, zd0, zt1, zt0, Nat.reduceAdd, Nat.reduceLeDiff, Nat.zero_add, zft, if_false, and_self, reduceCtorEq, beq_self_eq_true, zis, ty_string, ty_scope_Fault, und_scope_Fault, siz_scope_Fault, inf_scope_Fault_eq, b9, hltm, hn5, e2]
      with_reducible refine hR _ ?_
      clear hR R
      show S _ _ _ _ _
      refine S_ite (by simp only [ev, zg1, zg0, zgd]; exact rfl) ?_ ?_
      ·intro b10
       have c10 := b10
       try simp only [beq_iff_eq] at c10
       refine S_of_X EV_ok (by kernel_rfl) ?_
       refine X_rg fun R hR => ?_
       simp only [aops, astep, awant, aeff, aop, ev, St.put, zg1, zg0, zgd, zmo, if_true, zs1, zs0, b10]
       with_reducible refine hR _ ?_
       clear hR R
       show S _ _ _ _ _
       refine S_seq ?_
       have hin := ints_fn L[i].path L[i].path (Nat.le_trans (q2 _ (List.getElem_mem hlt)) (by omega))
       rw [decide_eq_true rfl] at hin
       simp only [sl] at hin
       have hnm : M[i].name = toN := by rw [h4]; rw [if_pos]; first | (simp [b6, b8, b9, b10]; done) | (simp_all; done)
       rw [hnm] at e2
       refine S_of_X EV_ok (by kernel_rfl) ?_
       refine X_rg fun R hR => ?_
       simp only [EVP, nat_lt, nat_0, nat_to, aops, astep, awant, aeff, aop, abin, aint, astr, ev, ofValue, St.put, pcall, ia_int, cl_int, ia_str, cl_str, ia_slice, cl_slice, zmc, zmn, zg1, zg0, zgd, zmo, zbs, if_true, zs1, zs0, zlm, zlc, zln, zd1, zd0, zt1, zt0, zca, zna, Nat.reduceAdd, Nat.reduceLeDiff, Nat.zero_add, Bool.not_true, zft, if_false, and_self, reduceCtorEq, beq_self_eq_true, bne_self_eq_false, zis, ty_int, ty_string, ty_s_int, ty_api_Errno, ty_scope_Fault, und_scope_Fault, siz_scope_Fault, inf_scope_Fault_eq, any24, hlt, hltm, hn4, hn5, e1, e2, hin, bne_self_eq_false]
       with_reducible refine hR _ ?_
       clear hR R
       show S _ _ _ _ _
       refine S_false (by simp only [ev, zg1, zg0, zgd]) ?_
       refine S_skip ?_
       show S _ _ _ _ _
       have hbig : i < 9223372036854775807 := by omega
       refine S_of_X EV_ok (by kernel_rfl) ?_
       refine X_rg fun R hR => ?_
       simp only [inr_i64, Int.reduceLE, Int.reduceNeg, aops, astep, awant, aeff, aop, abin, aint, ev, ofValue, St.put, zg1, zg0, zgd, zmo, if_true, zs1, zs0, and_self, nat_succ hbig]
       with_reducible refine hR _ ?_
       clear hR R
       show ∃ m, m < _ ∧ _
       exact ⟨L.length - (i + 1), by omega, i + 1, _, _, _, rfl, rfl, by omega⟩
      ·intro b11
       have c11 := b11
       try simp only [ne_eq, beq_eq_false_iff_ne] at c11
       refine S_skip ?_
       show S _ _ _ _ _
       refine S_seq ?_
       have hin := ints_fn L[i].path L[i].path (Nat.le_trans (q2 _ (List.getElem_mem hlt)) (by omega))
       rw [decide_eq_true rfl] at hin
       simp only [sl] at hin
       have hnm : M[i].name = L[i].name := by rw [h4]; rw [if_neg]; first | (simp [b6, b8, b9, b11]; done) | (simp_all; done)
       rw [hnm] at e2
       refine S_of_X EV_ok (by kernel_rfl) ?_
       refine X_rg fun R hR => ?_
       simp only [EVP, nat_lt, nat_0, nat_to, aops, astep, awant, aeff, aop, abin, aint, astr, ev, ofValue, St.put, pcall, ia_int, cl_int, ia_str, cl_str, ia_slice, cl_slice, zmc, zmn, zg1, zg0, zgd, zmo, zbs, if_true, zs1, zs0, zlm, zlc, zln, zd1, zd0, zt1, zt0, zca, zna, Nat.reduceAdd, Nat.reduceLeDiff, Nat.zero_add, Bool.not_true, zft, if_false, and_self, reduceCtorEq, beq_self_eq_true, bne_self_eq_false, zis, ty_int, ty_string, ty_s_int, ty_api_Errno, ty_scope_Fault, und_scope_Fault, siz_scope_Fault, inf_scope_Fault_eq, any24, b11, hlt, hltm, hn4, hn5, e1, e2, hin, bne_self_eq_false]
       with_reducible refine hR _ ?_
       clear hR R
       show S _ _ _ _ _
       refine S_false (by simp only [ev, zg1, zg0, zgd]) ?_
       refine S_skip ?_
       show S _ _ _ _ _
       have hbig : i < 9223372036854775807 := by omega
       refine S_of_X EV_ok (by kernel_rfl) ?_
       refine X_rg fun R hR => ?_
       simp only [inr_i64, Int.reduceLE, Int.reduceNeg, aops, astep, awant, aeff, aop, abin, aint, ev, ofValue, St.put, zg1, zg0, zgd, zmo, if_true, zs1, zs0, and_self, nat_succ hbig]
       with_reducible refine hR _ ?_
       clear hR R
       show ∃ m, m < _ ∧ _
       exact ⟨L.length - (i + 1), by omega, i + 1, _, _, _, rfl, rfl, by omega⟩
     ·intro b12
      have c12 := b12
      try simp only [ne_eq, beq_eq_false_iff_ne] at c12
      refine Y_end fun R hR => ?_
      simp only [EVP, Int.reduceNeg, aops, astep, awant, aeff, aop, abin, ev, ofValue, St.put, zg1, zg0, zgd, zmo, Option.map_none, zbs, if_true, zs1, zs0, zft, if_false, reduceCtorEq, beq_self_eq_true, bq_ft, ty_string, ty_scope_Fault, und_scope_Fault, b12]
      with_reducible refine hR _ ?_
      clear hR R
      show S _ _ _ _ _
      refine S_false (by simp only [ev, zg1, zg0, zgd]) ?_
      refine S_skip ?_
      show S _ _ _ _ _
      refine S_seq ?_
      have hin := ints_fn L[i].path L[i].path (Nat.le_trans (q2 _ (List.getElem_mem hlt)) (by omega))
      rw [decide_eq_true rfl] at hin
      simp only [sl] at hin
      have hnm : M[i].name = L[i].name := by rw [h4]; rw [if_neg]; first | (simp [b6, b8, b12]; done) | (simp_all; done)
      rw [hnm] at e2
      refine S_of_X EV_ok (by kernel_rfl) ?_
      refine X_rg fun R hR => ?_
      simp only [EVP, nat_lt, nat_0, nat_to, aops, astep, awant, aeff, aop, abin, aint, astr, ev, ofValue, St.put, pcall, ia_int, cl_int, ia_str, cl_str, ia_slice, cl_slice, zmc, zmn, zg1, zg0, zgd, zmo, zbs, if_true, zs1, zs0, zlm, zlc, zln, zd1, zd0, zt1, zt0, zca, zna, Nat.reduceAdd, Nat.reduceLeDiff, Nat.zero_add, Bool.not_true, zft, if_false, and_self, reduceCtorEq, beq_self_eq_true, bne_self_eq_false, zis, ty_int, ty_string, ty_s_int, ty_api_Errno, ty_scope_Fault, und_scope_Fault, siz_scope_Fault, inf_scope_Fault_eq, any24, hlt, hltm, hn4, hn5, e1, e2, hin, bne_self_eq_false]
      with_reducible refine hR _ ?_
      clear hR R
      show S _ _ _ _ _
      refine S_false (by simp only [ev, zg1, zg0, zgd]) ?_
      refine S_skip ?_
      show S _ _ _ _ _
      have hbig : i < 9223372036854775807 := by omega
      refine S_of_X EV_ok (by kernel_rfl) ?_
      refine X_rg fun R hR => ?_
      simp only [inr_i64, Int.reduceLE, Int.reduceNeg, aops, astep, awant, aeff, aop, abin, aint, ev, ofValue, St.put, zg1, zg0, zgd, zmo, if_true, zs1, zs0, and_self, nat_succ hbig]
      with_reducible refine hR _ ?_
      clear hR R
      show ∃ m, m < _ ∧ _
      exact ⟨L.length - (i + 1), by omega, i + 1, _, _, _, rfl, rfl, by omega⟩
   ·intro b13
    have c13 := b13
    try simp only [ne_eq, beq_eq_false_iff_ne] at c13
    refine Y_end fun R hR => ?_
    simp only [EVP, inr_i64, Int.reduceLE, Int.reduceNeg, aops, astep, awant, aeff, aop, abin, ev, ofValue, St.put, zg1, zg0, zgd, zmo, Option.map_none, zbs, if_true, zs1, zs0, Nat.zero_add, zft, if_false, and_self, reduceCtorEq, bq_ft, ty_int, ty_string, ty_s_api_Proc, ty_api_Program, und_api_Proc, ty_scope_Fault, und_scope_Fault, b13]
    with_reducible refine hR _ ?_
    clear hR R
    show S _ _ _ _ _
    refine S_false (by simp only [ev, zg1, zg0, zgd]) ?_
    refine S_skip ?_
    show S _ _ _ _ _
    refine S_seq ?_
    have hin := ints_fn L[i].path L[i].path (Nat.le_trans (q2 _ (List.getElem_mem hlt)) (by omega))
    rw [decide_eq_true rfl] at hin
    simp only [sl] at hin
    have hnm : M[i].name = L[i].name := by rw [h4]; rw [if_neg]; first | (simp [b13]; done) | (simp_all; done)
    rw [hnm] at e2
    refine S_of_X EV_ok (by kernel_rfl) ?_
    refine X_rg fun R hR => ?_
    simp only [EVP, nat_lt, nat_0, nat_to, aops, astep, awant, aeff, aop, abin, aint, astr, ev, ofValue, St.put, pcall, ia_int, cl_int, ia_str, cl_str, ia_slice, cl_slice, zmc, zmn, zg1, zg0, zgd, zmo, zbs, if_true, zs1, zs0, zlm, zlc, zln, zd1, zd0, zt1, zt0, zca, zna, Nat.reduceAdd, Nat.reduceLeDiff, Nat.zero_add, Bool.not_true, zft, if_false, and_self, reduceCtorEq, beq_self_eq_true, bne_self_eq_false, zis, ty_int, ty_string, ty_s_int, ty_api_Errno, ty_scope_Fault, und_scope_Fault, siz_scope_Fault, inf_scope_Fault_eq, any24, hlt, hltm, hn4, hn5, e1, e2, hin, bne_self_eq_false]
    with_reducible refine hR _ ?_
    clear hR R
    show S _ _ _ _ _
    refine S_false (by simp only [ev, zg1, zg0, zgd]) ?_
    refine S_skip ?_
    show S _ _ _ _ _
    have hbig : i < 9223372036854775807 := by omega
    refine S_of_X EV_ok (by kernel_rfl) ?_
    refine X_rg fun R hR => ?_
    simp only [inr_i64, Int.reduceLE, Int.reduceNeg, aops, astep, awant, aeff, aop, abin, aint, ev, ofValue, St.put, zg1, zg0, zgd, zmo, if_true, zs1, zs0, and_self, nat_succ hbig]
    with_reducible refine hR _ ?_
    clear hR R
    show ∃ m, m < _ ∧ _
    exact ⟨L.length - (i + 1), by omega, i + 1, _, _, _, rfl, rfl, by omega⟩
  ·intro b14
   have c14 := b14
   try simp only [decide_eq_false_iff_not] at c14
   refine S_exit ?_
   show S _ _ _ _ _
   refine S_seq ?_
   refine S_of_X EV_ok (by kernel_rfl) ?_
   refine X_rg fun R hR => ?_
   simp only [aops, astep, awant, aeff, aop, ev, ofValue, St.put, zgd, zmo, if_true, zs1, zs0, b14]
   with_reducible refine hR _ ?_
   clear hR R
   show S _ _ _ _ _
   refine S_ret ?_
   refine ⟨.inr rfl, .bool true, ?_, rfl, rfl⟩
   simp only [resD, resAll, resOne, resTup, Try.results5, zg1, zg0, D.good, if_true, zmo]
theorem law6_any (p : Pg) (k : Int) (hk0 : 0 ≤ k) (hk1 : k ≤ 255) : PContract Try.prog 5 [dG p, .int .u8 k] (.bool true) := by
 by_cases h1 : smallB p = true
 ·by_cases h3 : p.vars.length = 0
  ·exact fn_sound EV EV_ok (law6_n p k (.inr h3))
  ·cases h4 : hasV p.vars toN with
   | true => exact fn_sound EV EV_ok (law6_f p k hk0 hk1 h1 (by omega) h4)
   | false =>
    cases h5 : mentB toN p.main with
    | true => exact fn_sound EV EV_ok (law6_m p k hk0 hk1 h1 (by omega) h4 h5)
    | false => exact law6_y p k hk0 hk1 h1 (by omega) h4 h5
 ·exact fn_sound EV EV_ok (law6_n p k (.inl (by simpa using h1)))

end Go.Proofs.Ytjikokmhknnnoaa
