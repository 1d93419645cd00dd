/- Paths of nodes, over data. -/
import Derived.Test.YtkngdmilgfgclaaBs
namespace Go.Proofs.Ytkngdmilgfgclaa
open Go.RowKit

theorem ty_s_s_int : tyOf Try.prog 28 = some { sz := 1, agg := false, flds := [], elem := some 33, zero := some [.slice .nil 0 []], bytes := 24 } := by kernel_rfl
theorem und_s_int : Try.prog.underlying 28 = some (.slice 33) := by kernel_rfl
theorem siz_s_int : Try.prog.cellsOf 33 = 1 := by kernel_rfl
theorem has_s_int : (Try.prog.info? 33).isSome = true := by kernel_rfl
noncomputable def inf_s_int : TypeInfo := (Try.prog.info? 33).getD default
theorem inf_s_int_eq : Try.prog.info? 33 = some inf_s_int := by kernel_rfl
theorem inf_s_int_size : inf_s_int.size = 1 := by kernel_rfl
theorem inf_s_int_bytes : inf_s_int.bytes = 24 := by kernel_rfl
theorem inf_s_int_zero : inf_s_int.zero.isSome = true := by kernel_rfl
theorem inf_s_int_zc : (inf_s_int.zero.map fun z => z.cells.size) = some 1 := by kernel_rfl
theorem walkD_rows (t : Tr) : walkD t = (walkL [] t).map (fun x : List Int × Tr => [sl 1 (x.1.map dI), dN x.2]) := rfl
mutual
theorem walkL_len : ∀ (t : Tr) (p : List Int), (walkL p t).length = t.size
  | .mk k n s c, p => by
    have := walksL_len c p 0
    simp only [walkL, List.length_cons, Tr.size]; omega
theorem walksL_len : ∀ (c : List Tr) (p : List Int) (i : Nat), (walksL p i c).length = Tr.sizes c
  | [], _, _ => rfl
  | t :: r, p, i => by simp only [walksL, List.length_append, walkL_len t, walksL_len r, Tr.sizes]
end
mutual
theorem walk_ahead (q : List Int) : ∀ (t : Tr) (p : List Int), walkL (q ++ p) t = (walkL p t).map (fun x => (q ++ x.1, x.2))
  | .mk k n s c, p => by
    simp only [walkL, List.map_cons]
    rw [walks_ahead q c p 0]
theorem walks_ahead (q : List Int) : ∀ (c : List Tr) (p : List Int) (i : Nat), walksL (q ++ p) i c = (walksL p i c).map (fun x => (q ++ x.1, x.2))
  | [], _, _ => rfl
  | t :: r, p, i => by
    simp only [walksL, List.map_append]
    rw [List.append_assoc, walk_ahead q t (p ++ [(i : Int)]), walks_ahead q r p (i + 1)]
end
mutual
theorem walk_plen : ∀ (t : Tr) (p : List Int), ∀ x ∈ walkL p t, x.1.length ≤ p.length + t.size
  | .mk k n s c, p, x, hx => by
    simp only [walkL] at hx
    rcases List.mem_cons.1 hx with rfl | hx
    · exact Nat.le_add_right _ _
    · have := walks_plen c p 0 x hx
      simp only [Tr.size]; omega
theorem walks_plen : ∀ (c : List Tr) (p : List Int) (i : Nat), ∀ x ∈ walksL p i c, x.1.length ≤ p.length + 1 + Tr.sizes c
  | [], _, _, x, hx => by cases hx
  | t :: r, p, i, x, hx => by
    simp only [walksL] at hx
    simp only [Tr.sizes]
    rcases List.mem_append.1 hx with hx | hx
    · have := walk_plen t _ x hx
      simp only [List.length_append, List.length_cons, List.length_nil] at this; omega
    · have := walks_plen r p (i + 1) x hx; omega
end
/-- the paths of all nodes -/
def pathsL (t : Tr) : List (List Int) := (walkL [] t).map (·.1)
def psL (i : Nat) (c : List Tr) : List (List Int) := (walksL [] i c).map (·.1)
theorem pathsL_len (t : Tr) : (pathsL t).length = t.size := by unfold pathsL; rw [List.length_map, walkL_len]
theorem pathsL_plen {t : Tr} : ∀ p ∈ pathsL t, p.length ≤ t.size := fun p hp => by
  obtain ⟨x, hx, rfl⟩ := List.mem_map.1 hp
  have := walk_plen t [] x hx
  simpa using this
theorem pathsL_eq (t : Tr) : pathsL t = [] :: psL 0 t.kids := by cases t; rfl
theorem psL_drop {c : List Tr} {i : Nat} (h : i < c.length) : psL i (c.drop i) = (pathsL c[i]).map ((i : Int) :: ·) ++ psL (i + 1) (c.drop (i + 1)) := by
  rw [List.drop_eq_getElem_cons h]
  unfold psL pathsL
  simp only [walksL, List.map_append, List.nil_append]
  congr 1
  have h2 := walk_ahead [(i : Int)] c[i] []
  rw [List.append_nil] at h2
  rw [h2, List.map_map, List.map_map]
  rfl
def slJ (p : List Int) : D := sl 1 (p.map dI)
theorem slJ_strip (p : List Int) : (slJ p).strip = slJ p := sl_strip (map_strip (f := dI) (fun _ => rfl) _)
theorem slJ_under (m : Nat) (p : List Int) : (slJ p).under m = true := sl_under (map_under (f := dI) (fun _ => rfl) _)
def slW (L : List (List Int)) : D := sl 1 (L.map slJ)
theorem slW_strip (L : List (List Int)) : (slW L).strip = slW L := sl_strip (map_strip (f := slJ) slJ_strip _)
theorem slW_under (m : Nat) (L : List (List Int)) : (slW L).under m = true := sl_under (map_under (f := slJ) (slJ_under m) _)
/-- data that will read as these paths -/
structure LisP (M : List D) (L : List (List Int)) : Prop where
  s : M.map D.strip = L.map slJ
  u : D.unders 0 M = true
theorem LisP.len {M : List D} {L : List (List Int)} (h : LisP M L) : M.length = L.length := by have := congrArg List.length h.s; simpa using this
theorem LisP.snoc {M : List D} {L : List (List Int)} (h : LisP M L) {d : D} {p : List Int} (h1 : d.strip = slJ p) (h2 : d.under 0 = true) : LisP (M ++ [d]) (L ++ [p]) := by
  refine ⟨by simp [h.s, h1], ?_⟩
  have := h.u
  rw [D.unders_all] at this ⊢
  rw [List.all_append, this]; simp [h2]
theorem LisP.of (L : List (List Int)) : LisP (L.map slJ) L := ⟨by rw [List.map_map]; exact List.map_congr_left fun x _ => slJ_strip x, unders_id slJ_under 0 L⟩
/-- one element ahead of a slice -/
theorem cons_app {P : Program} {t e : TypeId} {i : TypeInfo} {sz : Nat} (nx : Nat) (lv : List Nat) (hu : P.underlying t = some (.slice e)) (hi : P.info? e = some i) (hs : i.size = sz) (hp : 0 < sz) (hb : i.bytes ≤ 4096) (hz : (i.zero.map fun z => z.cells.size) = some sz) (x : D) (n2 : Nat) (l : List D) (hn2 : l ≠ [] → n2 = sz) (hl : 1 + l.length ≤ 16777216) :
    ∃ o' nx' lv', (∀ fr bx, aappend P ⟨fr, bx, nx + 1, nx :: lv⟩ t (.slice (.own nx e) sz [x]) (.slice .imm n2 l) = some (.slice o' sz (x :: l), ⟨fr, bx, nx', lv'⟩)) ∧ Keep nx lv nx' lv' ∧ o'.st = .imm := by
  have h0 : Acc e sz (.own nx e) sz [x] (nx :: lv) := .own List.mem_cons_self
  cases l with
  | nil => exact ⟨.own nx e, nx + 1, nx :: lv, fun fr bx => Acc.app0 hu hi, ⟨by omega, fun s h1 h2 => List.mem_cons_of_mem _ h2⟩, rfl⟩
  | cons a r =>
    obtain rfl := hn2 (by simp)
    refine ⟨.own (nx + 1) e, nx + 2, (nx + 1) :: Own.cut (.own nx e) (nx :: lv), fun fr bx => Acc.app (σ := ⟨fr, bx, nx + 1, nx :: lv⟩) h0 hu hi hs hp hb hz (by simpa [Nat.add_comm] using hl) (by simp), ⟨by omega, fun s h1 h2 => ?_⟩, rfl⟩
    refine List.mem_cons_of_mem _ ?_
    simp only [Own.cut, List.mem_filter]
    exact ⟨List.mem_cons_of_mem _ h2, by simp; omega⟩
theorem row_st {x : Int} {p : List Int} {o : Own} (ho : o.st = .imm) : (D.slice o 1 (.int .i64 x :: p.map dI)).strip = slJ (x :: p) := by
  simp only [D.strip, D.strips, ho, strips_id (f := dI) (fun _ => rfl), slJ, sl, List.map_cons, List.isEmpty_cons, Bool.false_eq_true, if_false]
  rfl
theorem row_im (x : Int) (p : List Int) : (D.slice .imm 1 (.int .i64 x :: p.map dI)).strip = .slice .imm 1 (.int .i64 x :: p.map dI) := by
  simp only [D.strip, D.strips, Own.st, strips_id (f := dI) (fun _ => rfl), List.isEmpty_cons, Bool.false_eq_true, if_false]
theorem row_un {x : Int} {p : List Int} {o : Own} : (D.slice o 1 (.int .i64 x :: p.map dI)).under 0 = true := by
  simp only [D.under, D.unders, unders_id (f := dI) (fun _ _ => rfl), Bool.and_true]
def noT : Tr := .mk 0 0 ⟨#[]⟩ []
def atT : Tr → List Int → Tr × Bool
  | t, [] => (t, true)
  | t, i :: r => if i < 0 then (noT, false) else match t.kids[i.toNat]? with
    | some c => atT c r
    | none => (noT, false)
theorem atT_kid {t : Tr} {i : Nat} {r : List Int} {c : Tr} (h : t.kids[i]? = some c) : atT t ((i : Int) :: r) = atT c r := by
  simp only [atT, Int.toNat_natCast, h]
  rw [if_neg (by omega)]
theorem atT_no {t : Tr} {i : Int} {r : List Int} (h : i < 0 ∨ (t.kids.length : Int) ≤ i) : atT t (i :: r) = (noT, false) := by
  simp only [atT]
  by_cases h0 : i < 0
  · rw [if_pos h0]
  · rw [if_neg h0, List.getElem?_eq_none (by omega)]
theorem atT_yes {t : Tr} {i : Int} {r : List Int} (h0 : 0 ≤ i) (h : i.toNat < t.kids.length) : atT t (i :: r) = atT t.kids[i.toNat] r := by
  simp only [atT]
  rw [if_neg (by omega), List.getElem?_eq_getElem h]
mutual
theorem walk_at : ∀ (t : Tr) (p : List Int), ∀ x ∈ walkL p t, ∃ s, x.1 = p ++ s ∧ atT t s = (x.2, true)
  | .mk k n s c, p, x, hx => by
    simp only [walkL] at hx
    rcases List.mem_cons.1 hx with rfl | hx
    · exact ⟨[], by simp, rfl⟩
    · obtain ⟨j, r, h1, h2, h3⟩ := walks_at (.mk k n s c) c p 0 (fun j => by simp [Tr.kids]) x hx
      exact ⟨_, h2, h3⟩
theorem walks_at (t : Tr) : ∀ (c : List Tr) (p : List Int) (i : Nat), (∀ j, c[j]? = t.kids[i + j]?) → ∀ x ∈ walksL p i c, ∃ (j : Nat) (r : List Int), i ≤ j ∧ x.1 = p ++ ((j : Int) :: r) ∧ atT t ((j : Int) :: r) = (x.2, true)
  | [], _, _, _, x, hx => by cases hx
  | u :: r, p, i, hc, x, hx => by
    simp only [walksL] at hx
    rcases List.mem_append.1 hx with hx | hx
    · obtain ⟨s, h1, h2⟩ := walk_at u _ x hx
      have h0 := hc 0
      simp only [List.getElem?_cons_zero, Nat.add_zero] at h0
      exact ⟨i, s, Nat.le_refl _, by rw [h1, List.append_assoc]; rfl, by rw [atT_kid h0.symm]; exact h2⟩
    · obtain ⟨j, s, h1, h2, h3⟩ := walks_at t r p (i + 1) (fun j => by have := hc (j + 1); simp only [List.getElem?_cons_succ] at this; rw [this]; congr 1; omega) x hx
      exact ⟨j, s, by omega, h2, h3⟩
end
theorem le0n : (0 ≤ 0) = True := by simp
set_option maxRecDepth 100000 in
set_option maxHeartbeats 4000000 in
theorem paths_fn : ∀ (N : Nat) (t : Tr), t.size ≤ N → N ≤ 1000000 → fn EV 23 [dN t] = some (slW (pathsL t)) := by
  intro N
  induction N with
  | zero => intro t h; cases t; simp only [Tr.size] at h; omega
  | succ N IH =>
  intro t hN hNb
  have ih := fun (c : Tr) (hc : c.size < t.size) => IH c (by omega) (by omega)
  clear IH
  refine fn_Xs rfl Try.func23 rfl (by simp only [plain, List.all_cons, List.all_nil, dN_pl, Bool.and_true]) rfl ?_
  simp only [List.map_cons, List.map_nil, dN_strip]
  simp only [enterSt, Try.ntmps23, List.length_cons, List.length_nil, Nat.reduceAdd, Nat.reduceSub, List.replicate_succ, List.replicate_zero, List.cons_append, List.nil_append]
  refine X_seq ?_
  refine X_rg fun R hR => ?_
  simp only [aops, astep, awant, aeff, aop, ev, ofValue, St.put, List.getElem?_cons_zero, Option.getD_some, Option.map_some, if_true, List.set_cons_succ, List.set_cons_zero, List.length_nil, List.nil_append, dN_cells, dN_good, sl]
  with_reducible refine hR _ ?_
  clear hR R
  show X _ _ _ _
  refine X_seq ?_
  refine X_rg fun R hR => ?_
  simp only [EVP, aops, astep, awant, aeff, aop, abuild, ev, ofValue, St.put, gd_slice, cl_slice, List.map_cons, List.map_nil, List.getElem?_cons_succ, List.getElem?_cons_zero, Option.getD_some, Option.map_some, if_true, List.set_cons_succ, List.set_cons_zero, List.length_cons, List.length_nil, Nat.reduceLeDiff, Nat.reduceLT, Nat.zero_add, Bool.and_true, and_self, List.all_cons, List.all_nil, beq_self_eq_true, Nat.reduceMul, rng_1, und_s_int, inf_s_int_eq, inf_s_int_size, inf_s_int_zero]
  with_reducible refine hR _ ?_
  clear hR R
  show X _ _ _ _
  refine X_seq ?_
  refine X_seq ?_
  refine X_rg fun R hR => ?_
  simp only [inr_i64, Int.reduceLE, Int.reduceNeg, aops, astep, awant, aeff, aop, ev, ofValue, St.put, Option.getD_some, Option.map_some, if_true, List.set_cons_succ, List.set_cons_zero, and_self]
  with_reducible refine hR _ ?_
  clear hR R
  show X _ _ _ _
  refine X_block ?_
  refine X_loop (fun m σ => ∃ (i : Nat) (o : Own) (n : Nat) (M : List D) (L : List (List Int)) (nx : Nat) (lv : List Nat), σ = ⟨[slotOf σ 0, .ptr 0 0, slotOf σ 2, .slice o n M, .int .i64 i, slotOf σ 5, slotOf σ 6, slotOf σ 7, slotOf σ 8, slotOf σ 9, slotOf σ 10, slotOf σ 11, slotOf σ 12, slotOf σ 13, slotOf σ 14, slotOf σ 15, slotOf σ 16, slotOf σ 17, slotOf σ 18, slotOf σ 19, slotOf σ 20, slotOf σ 21, slotOf σ 22, slotOf σ 23, slotOf σ 24, slotOf σ 25, slotOf σ 26, slotOf σ 27, slotOf σ 28, slotOf σ 29, slotOf σ 30, slotOf σ 31, slotOf σ 32, slotOf σ 33, slotOf σ 34, slotOf σ 35, slotOf σ 36, slotOf σ 37], [[.int .u8 t.kind, .int .i64 t.num, .str t.name, .slice .imm (if (t.kids.map dN).isEmpty = true then 0 else 4) (t.kids.map dN)]], nx, lv⟩ ∧ m = t.kids.length - i ∧ i ≤ t.kids.length ∧ Hid (AccB 33 1 o n M nx lv) ∧ Hid (LisP M L) ∧ Hid (L ++ psL i (t.kids.drop i) = pathsL t)) ?_ (t.kids.length) _ ?_
  rotate_left
  · exact ⟨0, _, 1, [.slice .nil 0 []], [[]], 1, [0], rfl, rfl, Nat.zero_le _, Lib.hid (.own (by simp) (by omega)), Lib.hid ⟨rfl, rfl⟩, Lib.hid (by rw [pathsL_eq, List.drop_zero]; rfl)⟩
  rintro m σ ⟨i, o, n, M, L, nx, lv, hσ, rfl, hi, ha, hM, hL⟩
  generalize slotOf σ = x at hσ
  subst hσ
  refine X_seq ?_
  refine X_seq ?_
  refine X_rg fun R hR => ?_
  simp only [EVP, nat_lt, aops, astep, awant, aeff, aop, abin, aint, mkD, ev, St.put, ia_slice, List.getElem?_cons_succ, List.getElem?_cons_zero, Option.getD_some, Option.map_some, if_true, List.set_cons_succ, List.set_cons_zero, List.length_map, List.length_cons, List.length_nil, List.drop_succ_cons, List.drop_zero, List.take_succ_cons, List.take_zero, Nat.reduceAdd, Nat.reduceLeDiff, Nat.zero_add, Bool.false_eq_true, if_false, reduceCtorEq, ty_s_api_Node, ty_api_Node, und_api_Node]
  with_reducible refine hR _ ?_
  clear hR R
  show X _ _ _ _
  refine X_ite (by simp only [ev, List.getElem?_cons_succ, List.getElem?_cons_zero, Option.getD_some]; exact rfl) ?_ ?_
  · intro b1
    have c1 := b1
    try simp only [decide_eq_true_eq] at c1
    refine X_skip ?_
    show X _ _ _ _
    refine X_seq ?_
    refine X_block ?_
    refine X_seq ?_
    have hlt : i < t.kids.length := by first | assumption | omega
    have hn1 : ((if (t.kids.map dN).isEmpty = true then 0 else 4) = 4) = True := eq_true (sl_n (j := i) (by simpa using hlt))
    have ek : (t.kids.map dN)[i]? = some (dN t.kids[i]) := by simp [hlt]
    have hih := ih t.kids[i] (Tr.size_kid hlt)
    simp only [slW, sl] at hih
    refine X_rg fun R hR => ?_
    simp only [EVP, nat_lt, nat_0, nat_to, aops, astep, awant, aeff, aop, mkD, ev, St.put, pcall, ia_slice, List.map_cons, List.map_nil, List.getElem?_cons_succ, List.getElem?_cons_zero, Option.getD_some, Option.map_some, if_true, List.set_cons_succ, List.set_cons_zero, List.length_map, List.length_cons, List.length_nil, List.drop_succ_cons, List.drop_zero, List.take_succ_cons, List.take_zero, List.cons_append, List.nil_append, Nat.reduceAdd, Nat.reduceLeDiff, Nat.zero_add, Bool.false_eq_true, if_false, and_self, reduceCtorEq, decide_true, Option.isSome_some, ty_s_api_Node, ty_api_Node, und_api_Node, siz_api_Node, inf_api_Node_eq, any23, dN_cells, dN_isAgg, sl, hlt, hn1, ek, hih]
    with_reducible refine hR _ ?_
    clear hR R
    show X _ _ _ _
    refine X_seq ?_
    refine X_rg fun R hR => ?_
    simp only [inr_i64, Int.reduceLE, Int.reduceNeg, aops, astep, awant, aeff, aop, ev, ofValue, St.put, Option.getD_some, Option.map_some, if_true, List.set_cons_succ, List.set_cons_zero, and_self]
    with_reducible refine hR _ ?_
    clear hR R
    show X _ _ _ _
    refine X_block ?_
    refine X_loop (fun m σ => ∃ (k : Nat) (o2 : Own) (n2 : Nat) (M2 : List D) (L2 : List (List Int)) (nx2 : Nat) (lv2 : List Nat), σ = ⟨[slotOf σ 0, .ptr 0 0, slotOf σ 2, .slice o2 n2 M2, .int .i64 i, .slice .imm (if ((pathsL t.kids[i]).map slJ).isEmpty = true then 0 else 1) ((pathsL t.kids[i]).map slJ), .int .i64 k, slotOf σ 7, slotOf σ 8, slotOf σ 9, slotOf σ 10, slotOf σ 11, slotOf σ 12, slotOf σ 13, slotOf σ 14, slotOf σ 15, slotOf σ 16, slotOf σ 17, slotOf σ 18, slotOf σ 19, slotOf σ 20, slotOf σ 21, slotOf σ 22, slotOf σ 23, slotOf σ 24, slotOf σ 25, slotOf σ 26, slotOf σ 27, slotOf σ 28, slotOf σ 29, slotOf σ 30, slotOf σ 31, slotOf σ 32, slotOf σ 33, slotOf σ 34, slotOf σ 35, slotOf σ 36, slotOf σ 37], [[.int .u8 t.kind, .int .i64 t.num, .str t.name, .slice .imm (if (t.kids.map dN).isEmpty = true then 0 else 4) (t.kids.map dN)]], nx2, lv2⟩ ∧ m = (pathsL t.kids[i]).length - k ∧ k ≤ (pathsL t.kids[i]).length ∧ Hid (AccB 33 1 o2 n2 M2 nx2 lv2) ∧ Hid (LisP M2 L2) ∧ Hid (L2 ++ (((pathsL t.kids[i]).drop k).map ((i : Int) :: ·) ++ psL (i + 1) (t.kids.drop (i + 1))) = pathsL t)) ?_ ((pathsL t.kids[i]).length) _ ?_
    rotate_left
    · exact ⟨0, o, n, M, L, nx, lv, rfl, rfl, Nat.zero_le _, ha, hM, Lib.hid (by rw [List.drop_zero, ← psL_drop hlt]; exact hL.out)⟩
    rintro m σ ⟨k, o2, n2, M2, L2, nx2, lv2, hσ, rfl, hk, ha2, hM2, hL2⟩
    generalize slotOf σ = x at hσ
    subst hσ
    refine X_seq ?_
    refine X_seq ?_
    refine X_rg fun R hR => ?_
    simp only [EVP, nat_lt, aops, astep, awant, aeff, aop, abin, aint, ev, St.put, List.getElem?_cons_succ, List.getElem?_cons_zero, Option.getD_some, Option.map_some, if_true, List.set_cons_succ, List.set_cons_zero, List.length_map, und_s_int]
    with_reducible refine hR _ ?_
    clear hR R
    show X _ _ _ _
    refine X_ite (by simp only [ev, List.getElem?_cons_succ, List.getElem?_cons_zero, Option.getD_some]; exact rfl) ?_ ?_
    · intro b2
      have c2 := b2
      try simp only [decide_eq_true_eq] at c2
      refine X_skip ?_
      show X _ _ _ _
      refine X_seq ?_
      refine X_block ?_
      have hlk : k < (pathsL t.kids[i]).length := by first | assumption | omega
      have hn2 : ((if ((pathsL t.kids[i]).map slJ).isEmpty = true then 0 else 1) = 1) = True := eq_true (sl_n (j := k) (by rw [List.length_map]; exact hlk))
      have e2 : ((pathsL t.kids[i]).map slJ)[k]? = some (.slice .imm (if ((pathsL t.kids[i])[k].map dI).isEmpty = true then 0 else 1) ((pathsL t.kids[i])[k].map dI)) := by rw [List.getElem?_map, List.getElem?_eq_getElem hlk]; rfl
      have hpl := pathsL_plen _ (List.getElem_mem hlk)
      have hsk := Tr.size_kid hlt
      obtain ⟨o3, nx3, lv3, hap3, hkp3, ho3⟩ := cons_app (P := Try.prog) (t := 33) nx2 lv2 und_int inf_int_eq inf_int_size (by omega) (by rw [inf_int_bytes]; omega) inf_int_zc (.int .i64 (i : Int)) (if ((pathsL t.kids[i])[k].map dI).isEmpty = true then 0 else 1) ((pathsL t.kids[i])[k].map dI) (fun h => by cases hq : (pathsL t.kids[i])[k].map dI with | nil => exact absurd hq h | cons a b => rfl) (by rw [List.length_map]; omega)
      have hll : L2.length ≤ 1000000 := by have h9 := congrArg List.length hL2.out; rw [List.length_append, pathsL_len] at h9; omega
      obtain ⟨lv4, hacc, hap4⟩ := (ha2.out.keep hkp3).app1 (P := Try.prog) (t := 28) und_s_int inf_s_int_eq inf_s_int_size (by omega) (by rw [inf_s_int_bytes]; omega) inf_s_int_zc (.slice o3 1 (.int .i64 (i : Int) :: (pathsL t.kids[i])[k].map dI)) (by rw [hM2.out.len]; omega)
      refine X_rg fun R hR => ?_
      simp only [EVP, nat_lt, nat_0, nat_to, aops, astep, awant, aeff, aop, abuild, ev, ofValue, St.put, gd_int, cl_int, gd_slice, ia_slice, cl_slice, List.map_cons, List.map_nil, List.getElem?_cons_succ, List.getElem?_cons_zero, Option.getD_some, Option.map_some, if_true, List.set_cons_succ, List.set_cons_zero, List.length_map, List.length_cons, List.length_nil, Nat.reduceLeDiff, Nat.reduceLT, Nat.zero_add, Bool.and_true, and_self, List.all_cons, List.all_nil, decide_true, beq_self_eq_true, Option.isSome_some, Nat.reduceMul, rng_1, ty_s_int, und_int, inf_int_eq, inf_int_size, inf_int_zero, und_s_int, siz_s_int, inf_s_int_eq, inf_s_int_size, inf_s_int_zero, hlk, hn2, e2, hap3, hap4]
      with_reducible refine hR _ ?_
      clear hR R
      show X _ _ _ _
      have hbig : k < 9223372036854775807 := by have h9 := pathsL_len t.kids[i]; have hsk := Tr.size_kid hlt; omega
      refine X_rg fun R hR => ?_
      simp only [inr_i64, Int.reduceLE, Int.reduceNeg, aops, astep, awant, aeff, aop, abin, aint, ev, ofValue, St.put, List.getElem?_cons_succ, List.getElem?_cons_zero, Option.getD_some, Option.map_some, if_true, List.set_cons_succ, List.set_cons_zero, and_self, nat_succ hbig]
      with_reducible refine hR _ ?_
      clear hR R
      show ∃ m, m < _ ∧ _
      exact ⟨(pathsL t.kids[i]).length - (k + 1), by omega, k + 1, _, _, _, L2 ++ [(i : Int) :: (pathsL t.kids[i])[k]], _, _, rfl, rfl, by omega, Lib.hid hacc, Lib.hid (hM2.out.snoc (row_st ho3) row_un), Lib.hid (by have h9 := hL2.out; rw [List.drop_eq_getElem_cons hlk, List.map_cons, List.cons_append] at h9; rw [List.append_assoc]; exact h9)⟩
    · intro b3
      have c3 := b3
      try simp only [decide_eq_false_iff_not] at c3
      refine X_exit ?_
      show X _ _ _ _
      have hbig : i < 9223372036854775807 := by have := Tr.length_kids t; omega
      refine X_rg fun R hR => ?_
      simp only [inr_i64, Int.reduceLE, Int.reduceNeg, aops, astep, awant, aeff, aop, abin, aint, ev, ofValue, St.put, List.getElem?_cons_succ, List.getElem?_cons_zero, Option.getD_some, Option.map_some, if_true, List.set_cons_succ, List.set_cons_zero, and_self, b3, nat_succ hbig]
      with_reducible refine hR _ ?_
      clear hR R
      show ∃ m, m < _ ∧ _
      exact ⟨t.kids.length - (i + 1), by omega, i + 1, o2, n2, M2, L2, nx2, lv2, rfl, rfl, by omega, ha2, hM2, Lib.hid (by have h9 := hL2.out; rw [List.drop_of_length_le (by omega)] at h9; exact h9)⟩
  · intro b4
    have c4 := b4
    try simp only [decide_eq_false_iff_not] at c4
    refine X_exit ?_
    show X _ _ _ _
    refine X_seq ?_
    refine X_rg fun R hR => ?_
    simp only [aops, astep, awant, aeff, aop, ev, St.put, List.getElem?_cons_succ, List.getElem?_cons_zero, Option.getD_some, Option.map_some, if_true, List.set_cons_succ, List.set_cons_zero, b4]
    with_reducible refine hR _ ?_
    clear hR R
    show X _ _ _ _
    refine X_ret ?_
    show ∃ d, resD _ _ _ = some d ∧ _ ∧ _
    simp only [resD, resAll, resOne, resTup, Try.results23, EVP, List.getElem?_cons_succ, List.getElem?_cons_zero, D.good, if_true, Option.map_some]
    have hT : L = pathsL t := by have h1 := hL.out; rw [List.drop_of_length_le (by omega)] at h1; simpa only [psL, walksL, List.map_nil, List.append_nil] using h1
    have hst := ha.out.a.strip
    exact ⟨_, rfl, by simp only [D.under]; exact hM.out.u, by rw [hst, hM.out.s, hT]; rfl⟩
theorem at_tail {c : Tr} {r : List Int} {d : D} (h : fn EV 25 [dN c, sl 1 (r.map dI)] = some d) : fn EV 25 [dN c, .slice .imm 1 (r.map dI)] = some d := by
  rw [← h]
  refine fn_strip ?_ (by simp only [plain, List.all_cons, List.all_nil, dN_pl, sl_pl (f := dI) (fun _ _ => rfl), Bool.and_true]) ?_
  · have h0 : ((D.slice .imm 1 (r.map dI)).under 0 && (D.slice .imm 1 (r.map dI)).good) = true := by simp only [D.under, unders_id (f := dI) (fun _ _ => rfl)]; rfl
    simp only [plain, List.all_cons, List.all_nil, dN_pl, h0, Bool.and_true]
  · simp only [List.map_cons, List.map_nil, D.strip, Own.st, strips_id (f := dI) (fun _ => rfl), sl]
    cases r <;> rfl
set_option maxRecDepth 100000 in
set_option maxHeartbeats 4000000 in
theorem rat_nil (t : Tr) : fn EV 25 [dN t, sl 1 (([] : List Int).map dI)] = some (.tup [dN (atT t []).1, .bool (atT t []).2]) := by
  refine fn_Xs rfl Try.func25 rfl (by simp only [plain, List.all_cons, List.all_nil, dN_pl, sl_pl (f := dI) (fun _ _ => rfl), Bool.and_true]) (rfl) ?_
  simp only [List.map_cons, List.map_nil, dN_strip]
  simp only [enterSt, Try.ntmps25, List.length_cons, List.length_nil, Nat.reduceAdd, Nat.reduceSub, List.replicate_succ, List.replicate_zero, List.cons_append, List.nil_append]
  refine X_seq ?_
  refine X_rg fun R hR => ?_
  simp only [EVP, aops, astep, awant, aeff, aop, ev, ofValue, St.put, List.getElem?_cons_zero, Option.getD_some, Option.map_some, Option.bind_some, if_true, List.set_cons_succ, List.set_cons_zero, List.length_cons, List.length_nil, List.cons_append, List.nil_append, Nat.zero_add, List.isEmpty_nil, ty_api_Node, dN_cells, dN_good, sl]
  with_reducible refine hR _ ?_
  clear hR R
  show X _ _ _ _
  refine X_seq ?_
  refine X_seq ?_
  have hz8 : (((0 : Nat) : Int) == 0) = true := rfl
  have hns : (D.slice .imm 0 []).strip = D.slice .imm 0 [] := rfl
  simp only [hns]
  refine X_rg fun R hR => ?_
  simp only [EVP, inr_i64, Int.reduceLE, Int.reduceNeg, aops, astep, awant, aeff, aop, abin, aint, ev, ofValue, St.put, List.getElem?_cons_succ, List.getElem?_cons_zero, Option.getD_some, Option.map_some, if_true, List.set_cons_succ, List.set_cons_zero, List.length_nil, and_self, und_int, List.length_nil, hz8]
  with_reducible refine hR _ ?_
  clear hR R
  show X _ _ _ _
  refine X_true (by simp only [ev, List.getElem?_cons_succ, List.getElem?_cons_zero, Option.getD_some]) ?_
  refine X_seq ?_
  refine X_rg fun R hR => ?_
  simp only [EVP, aops, astep, awant, aeff, aop, mkD, astore, ev, ofValue, St.put, List.getElem?_cons_succ, List.getElem?_cons_zero, Option.getD_some, Option.map_some, if_true, List.set_cons_succ, List.set_cons_zero, List.length_cons, List.length_nil, List.drop_succ_cons, List.drop_zero, List.take_succ_cons, List.take_zero, List.cons_append, List.nil_append, Nat.reduceAdd, Nat.reduceLeDiff, Nat.zero_add, and_self, ty_api_Node, dN_agg, dN_cells, dN_good, sl]
  with_reducible refine hR _ ?_
  clear hR R
  show X _ _ _ _
  refine X_ret ?_
  show ∃ d, resD _ _ _ = some d ∧ _ ∧ _
  simp only [resD, resAll, resOne, resTup, Try.results25, EVP, mkD, ty_api_Node, List.getElem?_cons_succ, List.getElem?_cons_zero, List.drop_zero, List.take_succ_cons, List.take_zero, List.length_cons, List.length_nil, Nat.reduceAdd, Nat.reduceLeDiff, Nat.zero_add, D.good, if_true, Option.map_some]
  simp only [dN_agg]
  exact ⟨_, rfl, by simp only [D.under, D.unders, dN_under, Bool.and_true], by simp only [atT, D.strip, D.strips, dN_strip]⟩
set_option maxRecDepth 100000 in
set_option maxHeartbeats 4000000 in
theorem rat_cons (x : Int) (r : List Int) (hr : r.length ≤ 1000000) (ih : ∀ c : Tr, fn EV 25 [dN c, sl 1 (r.map dI)] = some (.tup [dN (atT c r).1, .bool (atT c r).2])) (t : Tr) : fn EV 25 [dN t, sl 1 ((x :: r).map dI)] = some (.tup [dN (atT t (x :: r)).1, .bool (atT t (x :: r)).2]) := by
  refine fn_Xs rfl Try.func25 rfl (by simp only [plain, List.all_cons, List.all_nil, dN_pl, sl_pl (f := dI) (fun _ _ => rfl), Bool.and_true]) (rfl) ?_
  simp only [List.map_cons, List.map_nil, dN_strip]
  simp only [enterSt, Try.ntmps25, List.length_cons, List.length_nil, Nat.reduceAdd, Nat.reduceSub, List.replicate_succ, List.replicate_zero, List.cons_append, List.nil_append]
  refine X_seq ?_
  refine X_rg fun R hR => ?_
  simp only [EVP, aops, astep, awant, aeff, aop, ev, ofValue, St.put, List.getElem?_cons_zero, Option.getD_some, Option.map_some, Option.bind_some, if_true, List.set_cons_succ, List.set_cons_zero, List.length_cons, List.length_nil, List.cons_append, List.nil_append, Nat.zero_add, ty_api_Node, dN_cells, dN_good, sl]
  with_reducible refine hR _ ?_
  clear hR R
  show X _ _ _ _
  refine X_seq ?_
  refine X_seq ?_
  have hz8 : (((r.length + 1 : Nat) : Int) == 0) = false := by rw [beq_eq_false_iff_ne]; omega
  have hdI : dI x = .int .i64 x := rfl
  simp only [List.isEmpty_cons, Bool.false_eq_true, if_false, hdI, row_im]
  have hl0 : ((0 : Int) < ((r.length + 1 : Nat) : Int)) = True := eq_true (by omega)
  have hl1 : ((1 : Int) ≤ ((r.length + 1 : Nat) : Int)) = True := eq_true (by omega)
  have hl1n : (1 ≤ r.length + 1) = True := eq_true (by omega)
  have hl0n : (0 < r.length + 1) = True := eq_true (by omega)
  have hz01 : (((0 : Nat) : Int) ≤ 1) = True := eq_true (by omega)
  have hTk : (r.map dI).take r.length = r.map dI := by rw [List.take_of_length_le (by simp)]
  refine X_rg fun R hR => ?_
  simp only [EVP, inr_i64, Int.reduceLE, Int.reduceNeg, aops, astep, awant, aeff, aop, abin, aint, ev, ofValue, St.put, List.getElem?_cons_succ, List.getElem?_cons_zero, Option.getD_some, Option.map_some, if_true, List.set_cons_succ, List.set_cons_zero, List.length_map, List.length_cons, and_self, und_int, hz8, List.length_cons, List.length_map]
  with_reducible refine hR _ ?_
  clear hR R
  show X _ _ _ _
  refine X_false (by simp only [ev, List.getElem?_cons_succ, List.getElem?_cons_zero, Option.getD_some]) ?_
  refine X_skip ?_
  show X _ _ _ _
  refine X_seq ?_
  refine X_seq ?_
  refine X_y ?_
  refine Y_k 5 fun R hR => ?_
  simp only [EVP, inr_i64, Int.reduceLE, Int.reduceNeg, aops, astep, awant, aeff, aop, abin, aint, ev, ofValue, St.put, ia_int, cl_int, List.getElem?_cons_succ, List.getElem?_cons_zero, Option.getD_some, Option.map_some, if_true, List.set_cons_succ, List.set_cons_zero, List.length_map, List.length_cons, List.length_nil, List.take_succ_cons, List.take_zero, Nat.zero_add, and_self, Option.isSome_some, ty_int, und_int, siz_int, inf_int_eq, hl0, List.length_cons, List.length_map, Int.toNat_zero]
  with_reducible refine hR _ ?_
  clear hR R
  simp only [List.drop_succ_cons, List.drop_zero]
  refine Y_if 14 (by simp only [ev, List.getElem?_cons_succ, List.getElem?_cons_zero, Option.getD_some]; exact rfl) ?_ ?_
  · intro b1
    have c1 := b1
    try simp only [decide_eq_true_eq] at c1
    refine Y_end fun R hR => ?_
    simp only [EVP, aops, astep, awant, aeff, aop, abin, ev, ofValue, St.put, List.getElem?_cons_succ, List.getElem?_cons_zero, Option.getD_some, Option.map_some, Option.map_none, Option.bind_some, if_true, List.set_cons_succ, List.set_cons_zero, Nat.zero_add, Bool.false_eq_true, if_false, reduceCtorEq, bq_tf, ty_int, ty_s_api_Node, ty_api_Node, und_int, und_api_Node, b1]
    with_reducible refine hR _ ?_
    clear hR R
    show X _ _ _ _
    refine X_true (by simp only [ev, List.getElem?_cons_succ, List.getElem?_cons_zero, Option.getD_some]) ?_
    refine X_seq ?_
    refine X_rg fun R hR => ?_
    simp only [EVP, aops, astep, awant, aeff, aop, afill, astore, ev, ofValue, St.put, gd_agg, cl_agg, List.map_nil, List.getElem?_cons_succ, List.getElem?_cons_zero, Option.getD_some, Option.map_some, if_true, List.set_cons_succ, List.set_cons_zero, List.length_cons, List.length_nil, List.drop_succ_cons, List.drop_zero, List.take_zero, List.cons_append, List.nil_append, Nat.reduceAdd, Nat.reduceLeDiff, Nat.zero_add, and_self, ty_api_Node, st_api_Node, sta_api_Node]
    with_reducible refine hR _ ?_
    clear hR R
    show X _ _ _ _
    refine X_ret ?_
    show ∃ d, resD _ _ _ = some d ∧ _ ∧ _
    simp only [resD, resAll, resOne, resTup, Try.results25, EVP, mkD, ty_api_Node, List.getElem?_cons_succ, List.getElem?_cons_zero, List.drop_zero, List.take_succ_cons, List.take_zero, List.length_cons, List.length_nil, Nat.reduceAdd, Nat.reduceLeDiff, Nat.zero_add, D.good, if_true, Option.map_some]
    exact ⟨_, rfl, rfl, by rw [atT_no (by first | (left; assumption) | (right; assumption) | omega | (simp at *; omega))]; simp only [D.strip, D.strips]; rw [dN_eq]; rfl⟩
  · intro b2
    have c2 := b2
    try simp only [decide_eq_false_iff_not, Int.not_lt] at c2
    refine Y_end fun R hR => ?_
    simp only [EVP, inr_i64, Int.reduceLE, Int.reduceNeg, aops, astep, awant, aeff, aop, abin, aint, mkD, ev, ofValue, St.put, ia_int, cl_int, ia_slice, List.getElem?_cons_succ, List.getElem?_cons_zero, Option.getD_some, Option.map_some, Option.bind_some, if_true, List.set_cons_succ, List.set_cons_zero, List.length_map, List.length_cons, List.length_nil, List.drop_succ_cons, List.drop_zero, List.take_succ_cons, List.take_zero, Nat.reduceAdd, Nat.reduceLeDiff, Nat.zero_add, Bool.false_eq_true, if_false, and_self, reduceCtorEq, beq_self_eq_true, Option.isSome_some, ty_int, ty_s_api_Node, ty_api_Node, und_int, siz_int, inf_int_eq, und_api_Node, b2, hl0, List.length_cons, List.length_map, Int.toNat_zero, List.drop_succ_cons, List.drop_zero]
    with_reducible refine hR _ ?_
    clear hR R
    show X _ _ _ _
    refine X_ite (by simp only [ev, List.getElem?_cons_succ, List.getElem?_cons_zero, Option.getD_some]; exact rfl) ?_ ?_
    · intro b3
      have c3 := b3
      try simp only [decide_eq_true_eq, ge_iff_le] at c3
      refine X_seq ?_
      refine X_rg fun R hR => ?_
      simp only [EVP, aops, astep, awant, aeff, aop, afill, astore, ev, ofValue, St.put, gd_agg, cl_agg, List.map_nil, List.getElem?_cons_succ, List.getElem?_cons_zero, Option.getD_some, Option.map_some, if_true, List.set_cons_succ, List.set_cons_zero, List.length_cons, List.length_nil, List.drop_succ_cons, List.drop_zero, List.take_zero, List.cons_append, List.nil_append, Nat.reduceAdd, Nat.reduceLeDiff, Nat.zero_add, and_self, ty_api_Node, st_api_Node, sta_api_Node, b3]
      with_reducible refine hR _ ?_
      clear hR R
      show X _ _ _ _
      refine X_ret ?_
      show ∃ d, resD _ _ _ = some d ∧ _ ∧ _
      simp only [resD, resAll, resOne, resTup, Try.results25, EVP, mkD, ty_api_Node, List.getElem?_cons_succ, List.getElem?_cons_zero, List.drop_zero, List.take_succ_cons, List.take_zero, List.length_cons, List.length_nil, Nat.reduceAdd, Nat.reduceLeDiff, Nat.zero_add, D.good, if_true, Option.map_some]
      exact ⟨_, rfl, rfl, by rw [atT_no (by first | (left; assumption) | (right; assumption) | omega | (simp at *; omega))]; simp only [D.strip, D.strips]; rw [dN_eq]; rfl⟩
    · intro b4
      have c4 := b4
      try simp only [decide_eq_false_iff_not, Int.not_le, ge_iff_le] at c4
      refine X_skip ?_
      show X _ _ _ _
      refine X_seq ?_
      have hk0 : 0 ≤ x := by first | assumption | omega | (simp at *; omega)
      have hk2 : x.toNat < t.kids.length := by first | omega | (simp at *; omega)
      have hk1 : x < (t.kids.length : Int) := by omega
      have hn4 : ((if (t.kids.map dN).isEmpty = true then 0 else 4) = 4) = True := eq_true (sl_n (j := x.toNat) (by simpa using hk2))
      have e2 : (t.kids.map dN)[x.toNat]? = some (dN t.kids[x.toNat]) := by simp [hk2]
      have hih := at_tail (ih t.kids[x.toNat])
      refine X_rg fun R hR => ?_
      simp only [EVP, inr_i64, Int.reduceLE, Int.reduceNeg, aops, astep, awant, aeff, aop, mkD, idx, aslice, astore, ev, ofValue, St.put, pcall, ia_int, cl_int, ia_slice, List.map_cons, List.map_nil, List.getElem?_cons_succ, List.getElem?_cons_zero, Option.getD_some, Option.map_some, Option.map_none, if_true, List.set_cons_succ, List.set_cons_zero, List.length_map, List.length_cons, List.length_nil, List.drop_succ_cons, List.drop_zero, List.take_succ_cons, List.take_zero, List.cons_append, List.nil_append, Nat.reduceAdd, Nat.reduceLeDiff, Nat.zero_add, Bool.false_eq_true, if_false, and_self, reduceCtorEq, Option.isSome_some, ty_int, ty_s_api_Node, ty_api_Node, und_int, siz_int, inf_int_eq, und_api_Node, siz_api_Node, inf_api_Node_eq, any25, dN_cells, dN_isAgg, dN_good, sl, b4, hl0, hl1, hz01, hTk, List.length_cons, List.length_map, Int.toNat_zero, Int.toNat_one, List.drop_succ_cons, Nat.add_sub_cancel, List.drop_zero, or_false, hk0, hk1, hn4, e2, hih]
      with_reducible refine hR _ ?_
      clear hR R
      show X _ _ _ _
      refine X_ret ?_
      show ∃ d, resD _ _ _ = some d ∧ _ ∧ _
      simp only [resD, resAll, resOne, resTup, Try.results25, EVP, mkD, ty_api_Node, List.getElem?_cons_succ, List.getElem?_cons_zero, List.drop_zero, List.take_succ_cons, List.take_zero, List.length_cons, List.length_nil, Nat.reduceAdd, Nat.reduceLeDiff, Nat.zero_add, D.good, if_true, Option.map_some]
      simp only [dN_agg]
      exact ⟨_, rfl, by simp only [D.under, D.unders, dN_under, Bool.and_true], by rw [atT_yes hk0 hk2]; simp only [D.strip, D.strips, dN_strip]⟩
theorem rat_fn : ∀ (path : List Int) (t : Tr), path.length ≤ 1000000 → fn EV 25 [dN t, sl 1 (path.map dI)] = some (.tup [dN (atT t path).1, .bool (atT t path).2])
  | [], t, _ => rat_nil t
  | x :: r, t, h => rat_cons x r (by simp only [List.length_cons] at h; omega) (fun c => rat_fn r c (by simp only [List.length_cons] at h; omega)) t
set_option maxRecDepth 100000 in
set_option maxHeartbeats 4000000 in
theorem ints_self (l : List Int) (hl : l.length ≤ 1000000) : fn EV 27 [sl 1 (l.map dI), sl 1 (l.map dI)] = some (.bool true) := by
  refine fn_X rfl Try.func27 rfl (by simp only [plain, List.all_cons, List.all_nil, sl_pl (f := dI) (fun _ _ => rfl), Bool.and_true]) (rfl) (rfl) (rfl) ?_
  simp only [List.map_cons, List.map_nil, sl_strip (map_strip (f := dI) (fun _ => rfl) _)]
  simp only [enterSt, Try.ntmps27, List.length_cons, List.length_nil, Nat.reduceAdd, Nat.reduceSub, List.replicate_succ, List.replicate_zero, List.cons_append, List.nil_append]
  refine X_seq ?_
  refine X_rg fun R hR => ?_
  simp only [aops, astep, awant, aeff, aop, ev, ofValue, St.put, Option.getD_some, Option.map_some, if_true, List.set_cons_succ, List.set_cons_zero, sl]
  with_reducible refine hR _ ?_
  clear hR R
  show X _ _ _ _
  refine X_seq ?_
  refine X_seq ?_
  refine X_rg fun R hR => ?_
  simp only [EVP, aops, astep, awant, aeff, aop, abin, aint, ev, St.put, List.getElem?_cons_succ, List.getElem?_cons_zero, Option.getD_some, Option.map_some, if_true, List.set_cons_succ, List.set_cons_zero, List.length_map, bne_self_eq_false, und_int, bne_self_eq_false]
  with_reducible refine hR _ ?_
  clear hR R
  show X _ _ _ _
  refine X_false (by simp only [ev, List.getElem?_cons_succ, List.getElem?_cons_zero, Option.getD_some]) ?_
  refine X_skip ?_
  show X _ _ _ _
  refine X_seq ?_
  refine X_seq ?_
  refine X_rg fun R hR => ?_
  simp only [inr_i64, Int.reduceLE, Int.reduceNeg, aops, astep, awant, aeff, aop, ev, ofValue, St.put, Option.getD_some, Option.map_some, if_true, List.set_cons_succ, List.set_cons_zero, and_self]
  with_reducible refine hR _ ?_
  clear hR R
  show X _ _ _ _
  refine X_block ?_
  refine X_loop (fun m σ => ∃ (i : Nat), σ = ⟨[.slice .imm (if (l.map dI).isEmpty = true then 0 else 1) (l.map dI), .slice .imm (if (l.map dI).isEmpty = true then 0 else 1) (l.map dI), slotOf σ 2, slotOf σ 3, slotOf σ 4, .int .i64 i, slotOf σ 6, slotOf σ 7, slotOf σ 8, slotOf σ 9, slotOf σ 10, slotOf σ 11, slotOf σ 12, slotOf σ 13, slotOf σ 14, slotOf σ 15, slotOf σ 16, slotOf σ 17, slotOf σ 18, slotOf σ 19, slotOf σ 20, slotOf σ 21, slotOf σ 22, slotOf σ 23, slotOf σ 24, slotOf σ 25], [], 0, []⟩ ∧ m = l.length - i ∧ i ≤ l.length) ?_ (l.length) _ ?_
  rotate_left
  · exact ⟨0, rfl, rfl, Nat.zero_le _⟩
  rintro m σ ⟨i, hσ, rfl, hi⟩
  generalize slotOf σ = x at hσ
  subst hσ
  refine X_seq ?_
  refine X_seq ?_
  refine X_rg fun R hR => ?_
  simp only [EVP, nat_lt, aops, astep, awant, aeff, aop, abin, aint, ev, St.put, List.getElem?_cons_succ, List.getElem?_cons_zero, Option.getD_some, Option.map_some, if_true, List.set_cons_succ, List.set_cons_zero, List.length_map, und_int]
  with_reducible refine hR _ ?_
  clear hR R
  show X _ _ _ _
  refine X_ite (by simp only [ev, List.getElem?_cons_succ, List.getElem?_cons_zero, Option.getD_some]; exact rfl) ?_ ?_
  · intro b1
    have c1 := b1
    try simp only [decide_eq_true_eq] at c1
    refine X_skip ?_
    show X _ _ _ _
    refine X_seq ?_
    refine X_block ?_
    refine X_seq ?_
    have hlt : i < l.length := by first | assumption | omega
    have hn1 : ((if (l.map dI).isEmpty = true then 0 else 1) = 1) = True := eq_true (sl_n (j := i) (by simpa using hlt))
    have e1 : (l.map dI)[i]? = some (.int .i64 l[i]) := by rw [List.getElem?_map, List.getElem?_eq_getElem hlt]; rfl
    refine X_rg fun R hR => ?_
    simp only [EVP, nat_lt, nat_0, nat_to, aops, astep, awant, aeff, aop, abin, aint, ev, St.put, ia_int, cl_int, List.getElem?_cons_succ, List.getElem?_cons_zero, Option.getD_some, Option.map_some, if_true, List.set_cons_succ, List.set_cons_zero, List.length_map, List.length_cons, List.length_nil, Nat.zero_add, and_self, decide_true, bne_self_eq_false, Option.isSome_some, ty_int, und_int, siz_int, inf_int_eq, hlt, hn1, e1, bne_self_eq_false]
    with_reducible refine hR _ ?_
    clear hR R
    show X _ _ _ _
    refine X_false (by simp only [ev, List.getElem?_cons_succ, List.getElem?_cons_zero, Option.getD_some]) ?_
    refine X_skip ?_
    show X _ _ _ _
    have hbig : i < 9223372036854775807 := by omega
    refine X_rg fun R hR => ?_
    simp only [inr_i64, Int.reduceLE, Int.reduceNeg, aops, astep, awant, aeff, aop, abin, aint, ev, ofValue, St.put, List.getElem?_cons_succ, List.getElem?_cons_zero, Option.getD_some, Option.map_some, if_true, List.set_cons_succ, List.set_cons_zero, and_self, nat_succ hbig]
    with_reducible refine hR _ ?_
    clear hR R
    show ∃ m, m < _ ∧ _
    exact ⟨l.length - (i + 1), by omega, i + 1, rfl, rfl, by omega⟩
  · intro b2
    have c2 := b2
    try simp only [decide_eq_false_iff_not] at c2
    refine X_exit ?_
    show X _ _ _ _
    refine X_seq ?_
    refine X_rg fun R hR => ?_
    simp only [aops, astep, awant, aeff, aop, ev, ofValue, St.put, Option.getD_some, Option.map_some, if_true, List.set_cons_succ, List.set_cons_zero, b2]
    with_reducible refine hR _ ?_
    clear hR R
    show X _ _ _ _
    refine X_ret ?_
    show resD _ _ _ = some _
    simp only [resD, resAll, resOne, resTup, Try.results27, EVP, List.getElem?_cons_succ, List.getElem?_cons_zero, D.good, if_true, Option.map_some] <;> (first | (rfl; done) | (simp_all; done) | (exfalso; simp_all; done))

end Go.Proofs.Ytkngdmilgfgclaa
