/- The reference of the layer scope over data. -/
import Derived.Test.YtjikokmhknnnoaaSc2
namespace Go.Proofs.Ytjikokmhknnnoaa
open Go.RowKit

theorem ty_backstepref06_Fault : tyOf Try.prog 81 = some { sz := 4, agg := true, flds := [(0, 1, false), (1, 1, false), (2, 1, false), (3, 1, false)], elem := none, zero := some [.int .i64 0, .slice .nil 0 [], .int .i64 0, .str ⟨#[]⟩], bytes := 56 } := by kernel_rfl
theorem ty_s_backstepref06_Fault : tyOf Try.prog 44 = some { sz := 1, agg := false, flds := [], elem := some 81, zero := some [.slice .nil 0 []], bytes := 24 } := by kernel_rfl
noncomputable def fs_backstepref06_Fault : Array Field := match Try.prog.underlying 81 with | some (.struct fs) => fs | _ => #[]
theorem st_backstepref06_Fault : Try.prog.underlying 81 = some (.struct fs_backstepref06_Fault) := by kernel_rfl
theorem sta_backstepref06_Fault : (fs_backstepref06_Fault.toList.all fun f => (Try.prog.info? f.type).isSome) = true := by kernel_rfl
theorem und_backstepref06_Fault : Try.prog.underlying 44 = some (.slice 81) := by kernel_rfl
theorem siz_backstepref06_Fault : Try.prog.cellsOf 81 = 4 := by kernel_rfl
theorem has_backstepref06_Fault : (Try.prog.info? 81).isSome = true := by kernel_rfl
noncomputable def inf_backstepref06_Fault : TypeInfo := (Try.prog.info? 81).getD default
theorem inf_backstepref06_Fault_eq : Try.prog.info? 81 = some inf_backstepref06_Fault := by kernel_rfl
theorem inf_backstepref06_Fault_size : inf_backstepref06_Fault.size = 4 := by kernel_rfl
theorem inf_backstepref06_Fault_bytes : inf_backstepref06_Fault.bytes = 56 := by kernel_rfl
theorem inf_backstepref06_Fault_zero : inf_backstepref06_Fault.zero.isSome = true := by kernel_rfl
theorem inf_backstepref06_Fault_zc : (inf_backstepref06_Fault.zero.map fun z => z.cells.size) = some 4 := by kernel_rfl
theorem Acc.appE {P : Program} {t e : TypeId} {i : TypeInfo} {sz : Nat} {o : Own} {n : Nat} {L : List D} {lv : List Nat} (h : Acc e sz o n L lv) (hu : P.underlying t = some (.slice e)) (hi : P.info? e = some i) (hs : i.size = sz) (hp : 0 < sz) (hb : i.bytes ≤ 4096) (hz : (i.zero.map fun z => z.cells.size) = some sz) (nx : Nat) (l2 : List D)
    (hl : L.length + l2.length ≤ 16777216) : ∃ o' n' nx' lv', Acc e sz o' n' (L ++ l2) lv' ∧ ∀ fr bx, aappend P ⟨fr, bx, nx, lv⟩ t (.slice o n L) (.slice .imm (if l2.isEmpty = true then 0 else sz) l2) = some (.slice o' n' (L ++ l2), ⟨fr, bx, nx', lv'⟩) := by
  cases l2 with
  | nil => exact ⟨o, n, nx, lv, by rw [List.append_nil]; exact h, fun fr bx => by rw [List.append_nil]; exact Acc.app0 hu hi⟩
  | cons a r =>
    refine ⟨.own nx e, sz, nx + 1, nx :: o.cut lv, .own (List.mem_cons_self), fun fr bx => ?_⟩
    exact Acc.app (σ := ⟨fr, bx, nx, lv⟩) (o2 := .imm) h hu hi hs hp hb hz hl (by simp)
/-- an accumulator whose stamp is older than the next one -/
structure AccB (e : TypeId) (sz : Nat) (o : Own) (n : Nat) (L : List D) (nx : Nat) (lv : List Nat) : Prop where
  a : Acc e sz o n L lv
  b : ∀ s e', o = .own s e' → s < nx
structure Keep (nx : Nat) (lv : List Nat) (nx' : Nat) (lv' : List Nat) : Prop where
  l : nx ≤ nx'
  k : ∀ s, s < nx → s ∈ lv → s ∈ lv'
theorem AccB.nil (e : TypeId) (sz nx : Nat) (lv : List Nat) : AccB e sz .nil 0 [] nx lv := ⟨.nil _ _ _, fun s e' h => by cases h⟩
theorem AccB.own {e : TypeId} {sz st nx : Nat} {L : List D} {lv : List Nat} (h : st ∈ lv) (h' : st < nx) : AccB e sz (.own st e) sz L nx lv := ⟨.own h, fun s e' q => by cases q; exact h'⟩
theorem AccB.keep {e : TypeId} {sz : Nat} {o : Own} {n : Nat} {L : List D} {nx nx' : Nat} {lv lv' : List Nat} (h : AccB e sz o n L nx lv) (k : Keep nx lv nx' lv') : AccB e sz o n L nx' lv' := by
  refine ⟨?_, fun s e' q => Nat.lt_of_lt_of_le (h.b s e' q) k.l⟩
  rcases h.a with q | ⟨st, q1, q2, q3⟩
  · exact .inl q
  · exact .inr ⟨st, q1, k.k st (h.b st e q1) q2, q3⟩
theorem AccB.appE {P : Program} {t e : TypeId} {i : TypeInfo} {sz : Nat} {o : Own} {n : Nat} {L : List D} {nx : Nat} {lv : List Nat} (h : AccB e sz o n L nx lv) (hu : P.underlying t = some (.slice e)) (hi : P.info? e = some i) (hs : i.size = sz) (hp : 0 < sz) (hb : i.bytes ≤ 4096) (hz : (i.zero.map fun z => z.cells.size) = some sz) (l2 : List D)
    (hl : L.length + l2.length ≤ 16777216) : ∃ o' n' nx' lv', AccB e sz o' n' (L ++ l2) nx' lv' ∧ ∀ fr bx, aappend P ⟨fr, bx, nx, lv⟩ t (.slice o n L) (.slice .imm (if l2.isEmpty = true then 0 else sz) l2) = some (.slice o' n' (L ++ l2), ⟨fr, bx, nx', lv'⟩) := by
  cases l2 with
  | nil => exact ⟨o, n, nx, lv, by rw [List.append_nil]; exact h, fun fr bx => by rw [List.append_nil]; exact Acc.app0 hu hi⟩
  | cons a r =>
    refine ⟨.own nx e, sz, nx + 1, nx :: o.cut lv, .own (List.mem_cons_self) (by omega), fun fr bx => ?_⟩
    exact Acc.app (σ := ⟨fr, bx, nx, lv⟩) (o2 := .imm) h.a hu hi hs hp hb hz hl (by simp)
theorem AccB.app1 {P : Program} {t e : TypeId} {i : TypeInfo} {sz : Nat} {o : Own} {n : Nat} {L : List D} {nx : Nat} {lv : List Nat} (h : AccB e sz o n L nx lv) (hu : P.underlying t = some (.slice e)) (hi : P.info? e = some i) (hs : i.size = sz) (hp : 0 < sz) (hb : i.bytes ≤ 4096) (hz : (i.zero.map fun z => z.cells.size) = some sz) (x : D)
    (hl : L.length + 1 ≤ 16777216) : ∃ lv', AccB e sz (.own (nx + 1) e) sz (L ++ [x]) (nx + 1 + 1) lv' ∧ ∀ fr bx, aappend P ⟨fr, bx, nx + 1, nx :: lv⟩ t (.slice o n L) (.slice (.own nx e) sz [x]) = some (.slice (.own (nx + 1) e) sz (L ++ [x]), ⟨fr, bx, nx + 1 + 1, lv'⟩) :=
  ⟨(nx + 1) :: o.cut (nx :: lv), .own List.mem_cons_self (by omega), fun fr bx => Acc.app (σ := ⟨fr, bx, nx + 1, nx :: lv⟩) (o2 := .own nx e) (l2 := [x]) (h.a.more nx) hu hi hs hp hb hz hl (by simp)⟩
/-- a copy of a slice with one more -/
theorem copy_app {P : Program} {t e : TypeId} {i : TypeInfo} {sz : Nat} (nx : Nat) (lv : List Nat) (hu : P.underlying t = some (.slice e)) (hi : P.info? e = some i) (hs : i.size = sz) (hp : 0 < sz) (hb : i.bytes ≤ 4096) (hz : (i.zero.map fun z => z.cells.size) = some sz) (l : List D) (x : D) (hl : l.length + 1 ≤ 16777216) :
    ∃ o1 n1 nx1 lv1 o2 nx2 lv2, (∀ fr bx, aappend P ⟨fr, bx, nx + 1, nx :: lv⟩ t (.slice (.own nx e) sz []) (.slice .imm (if l.isEmpty = true then 0 else sz) l) = some (.slice o1 n1 l, ⟨fr, bx, nx1, lv1⟩)) ∧
      (∀ fr bx, aappend P ⟨fr, bx, nx1 + 1, nx1 :: lv1⟩ t (.slice o1 n1 l) (.slice (.own nx1 e) sz [x]) = some (.slice o2 sz (l ++ [x]), ⟨fr, bx, nx2, lv2⟩)) ∧ Keep nx lv nx2 lv2 ∧ o2.st = .imm := by
  have h0 : Acc e sz (.own nx e) sz [] (nx :: lv) := .own List.mem_cons_self
  cases l with
  | nil =>
    refine ⟨.own nx e, sz, nx + 1, nx :: lv, .own (nx + 2) e, nx + 3, (nx + 2) :: Own.cut (.own nx e) ((nx + 1) :: nx :: lv), fun fr bx => Acc.app0 hu hi, fun fr bx => ?_, ⟨by omega, fun s h1 h2 => ?_⟩, rfl⟩
    · exact Acc.app (σ := ⟨fr, bx, nx + 1 + 1, (nx + 1) :: nx :: lv⟩) (o2 := .own (nx + 1) e) (h0.more (nx + 1)) hu hi hs hp hb hz hl (by simp)
    · simp only [Own.cut, List.mem_cons, List.mem_filter, bne_iff_ne, ne_eq]; exact .inr ⟨.inr (.inr h2), by omega⟩
  | cons a r =>
    refine ⟨.own (nx + 1) e, sz, nx + 2, (nx + 1) :: Own.cut (.own nx e) (nx :: lv), .own (nx + 3) e, nx + 4, (nx + 3) :: Own.cut (.own (nx + 1) e) ((nx + 2) :: (nx + 1) :: Own.cut (.own nx e) (nx :: lv)), fun fr bx => ?_, fun fr bx => ?_, ⟨by omega, fun s h1 h2 => ?_⟩, rfl⟩
    · exact Acc.app (σ := ⟨fr, bx, nx + 1, nx :: lv⟩) (o2 := .imm) h0 hu hi hs hp hb hz (by simp at hl ⊢; omega) (by simp)
    · exact Acc.app (σ := ⟨fr, bx, nx + 2 + 1, (nx + 2) :: (nx + 1) :: Own.cut (.own nx e) (nx :: lv)⟩) (o2 := .own (nx + 2) e) (.own (by simp)) hu hi hs hp hb hz hl (by simp)
    · simp only [Own.cut, List.mem_cons, List.mem_filter, bne_iff_ne, ne_eq]; exact .inr ⟨.inr (.inr ⟨.inr h2, by omega⟩), by omega⟩
theorem dFt_agg (pr : Int) (path : List Int) (err : Int) (name : ByteArray) : D.agg [.int .i64 pr, .slice .imm (if (path.map dI).isEmpty = true then 0 else 1) (path.map dI), .int .i64 err, .str name] = dFt ⟨pr, path, err, name⟩ := rfl
theorem dFt_good (f : Ft) : (dFt f).good = true := rfl
theorem dFt_cells (f : Ft) : (dFt f).cells = [.int .i64 f.proc, .slice .imm (if (f.path.map dI).isEmpty = true then 0 else 1) (f.path.map dI), .int .i64 f.err, .str f.name] := rfl
def declV (t : Tr) : Vd × Bool := if t.kind = 54 then (⟨t.name, 1, 0⟩, true) else if t.kind = 55 then (⟨t.name, 3, 0⟩, true) else (noV, false)
def blkI (t : Tr) : Int := if t.kind = 54 then 1 else 0
theorem inner_y {t : Tr} {i : Int} {vs : List Vd} (h1 : (declV t).2 = true) (h2 : i = blkI t) : innerV t i vs = vs ++ [(declV t).1] := by
  subst h2
  unfold declV at h1
  by_cases k1 : t.kind = 54
  · simp [innerV, blkI, declV, k1]
  · by_cases k2 : t.kind = 55
    · simp [innerV, blkI, declV, k2]
    · simp [k1, k2] at h1
theorem inner_n {t : Tr} {i : Int} {vs : List Vd} (h : (declV t).2 = false ∨ ¬ i = blkI t) : innerV t i vs = vs := by
  unfold declV blkI at h
  by_cases k1 : t.kind = 54
  · simp_all [innerV]
  · by_cases k2 : t.kind = 55
    · simp_all [innerV]
    · simp [innerV, k1, k2]
set_option maxRecDepth 100000 in
set_option maxHeartbeats 4000000 in
theorem with_fn (l : List Int) (i : Int) (hl : l.length ≤ 1000000) : fn EV 66 [sl 1 (l.map dI), .int .i64 i] = some (sl 1 ((l ++ [i]).map dI)) := by
  refine fn_Xs rfl Try.func66 rfl (by simp only [plain, List.all_cons, List.all_nil, sl_pl (f := dI) (fun _ _ => rfl), int_pl, Bool.and_true]) (rfl) ?_
  simp only [List.map_cons, List.map_nil, D.strip, sl_strip (map_strip (f := dI) (fun _ => rfl) _)]
  simp only [enterSt, Try.ntmps66, List.length_cons, List.length_nil, Nat.reduceAdd, Nat.reduceSub, List.replicate_succ, List.replicate_zero, List.cons_append, List.nil_append]
  refine X_seq ?_
  refine X_rg fun R hR => ?_
  simp only [aops, astep, awant, aeff, aop, ev, ofValue, St.put, Option.getD_some, Option.map_some, if_true, List.set_cons_succ, List.set_cons_zero, sl]
  with_reducible refine hR _ ?_
  clear hR R
  show X _ _ _ _
  refine X_seq ?_
  obtain ⟨o1, n1, nx1, lv1, ha1, hap1⟩ := (Acc.own (e := 3) (sz := 1) (st := 0) (L := []) (lv := [0]) (by simp)).appE (P := Try.prog) (t := 48) und_int inf_int_eq inf_int_size (by omega) (by rw [inf_int_bytes]; omega) inf_int_zc 1 (l.map dI) (by simp; omega)
  simp only [List.nil_append] at ha1 hap1
  have hap2 := fun fr bx => (ha1.more nx1).app (P := Try.prog) (σ := ⟨fr, bx, nx1 + 1, nx1 :: lv1⟩) (t := 48) (o2 := .own nx1 3) (l2 := [.int .i64 i]) und_int inf_int_eq inf_int_size (by omega) (by rw [inf_int_bytes]; omega) inf_int_zc (by simp; omega) (by simp)
  refine X_rg fun R hR => ?_
  simp only [EVP, aops, astep, awant, aeff, aop, abuild, ev, ofValue, St.put, gd_int, cl_int, List.map_cons, List.map_nil, List.getElem?_cons_succ, List.getElem?_cons_zero, Option.getD_some, Option.map_some, if_true, List.set_cons_succ, List.set_cons_zero, List.length_cons, List.length_nil, Nat.reduceLeDiff, Nat.reduceLT, Nat.zero_add, Bool.and_true, and_self, List.all_cons, List.all_nil, beq_self_eq_true, Nat.reduceMul, rng_0, rng_1, und_int, inf_int_eq, inf_int_size, inf_int_zero, hap1, hap2]
  with_reducible refine hR _ ?_
  clear hR R
  show X _ _ _ _
  refine X_ret ?_
  show ∃ d, resD _ _ _ = some d ∧ _ ∧ _
  simp only [resD, resAll, resOne, resTup, Try.results66, EVP, List.getElem?_cons_succ, List.getElem?_cons_zero, D.good, if_true, Option.map_some]
  first | exact ⟨_, rfl, (by simp only [D.under, dI_def, D.unders_all, List.all_append, List.all_cons, List.all_nil]; rw [← D.unders_all, unders_id (f := dI) (fun _ _ => rfl)]; rfl), (by rw [show l.map dI ++ [D.int .i64 i] = (l ++ [i]).map dI from by simp [dI]]; exact sl_own (f := dI) (fun _ => rfl) (by simp) _ rfl)⟩ | (exfalso; simp_all; done)
set_option maxRecDepth 100000 in
set_option maxHeartbeats 4000000 in
theorem declared6_fn (t : Tr) : fn EV 53 [dN t] = some (.tup [dV (declV t).1, .bool (declV t).2]) := by
  refine fn_X rfl Try.func53 rfl (by simp only [plain, List.all_cons, List.all_nil, dN_pl, Bool.and_true]) (rfl) (rfl) (rfl) ?_
  simp only [List.map_cons, List.map_nil, dN_strip]
  simp only [enterSt, Try.ntmps53, List.length_cons, List.length_nil, Nat.reduceAdd, Nat.reduceSub, List.replicate_succ, List.replicate_zero, List.cons_append, List.nil_append]
  refine X_seq ?_
  refine X_rg fun R hR => ?_
  simp only [EVP, aops, astep, awant, aeff, aop, ev, ofValue, St.put, List.getElem?_cons_zero, Option.getD_some, Option.map_some, Option.bind_some, if_true, List.set_cons_succ, List.set_cons_zero, List.length_cons, List.length_nil, List.cons_append, List.nil_append, Nat.zero_add, ty_api_VarDecl, dN_cells, dN_good, sl]
  with_reducible refine hR _ ?_
  clear hR R
  show X _ _ _ _
  refine X_seq ?_
  refine X_seq ?_
  refine X_rg fun R hR => ?_
  simp only [EVP, inr_u8, Int.reduceLE, aops, astep, awant, aeff, aop, abin, aint, mkD, ev, ofValue, St.put, ia_int, List.getElem?_cons_succ, List.getElem?_cons_zero, Option.getD_some, Option.map_some, if_true, List.set_cons_succ, List.set_cons_zero, List.length_cons, List.length_nil, List.drop_zero, List.take_succ_cons, List.take_zero, Nat.reduceAdd, Nat.reduceLeDiff, Nat.zero_add, Nat.add_zero, Bool.false_eq_true, if_false, and_self, reduceCtorEq, ty_uint8, ty_api_Node]
  with_reducible refine hR _ ?_
  clear hR R
  show X _ _ _ _
  refine X_ite (by simp only [ev, List.getElem?_cons_succ, List.getElem?_cons_zero, Option.getD_some]; exact rfl) ?_ ?_
  · intro b1
    have c1 := b1
    try simp only [beq_iff_eq] at c1
    refine X_seq ?_
    refine X_rg fun R hR => ?_
    simp only [EVP, inr_u8, Int.reduceLE, aops, astep, awant, aeff, aop, mkD, afill, astore, ev, ofValue, St.put, gd_int, cl_int, gd_str, ia_str, cl_str, gd_agg, cl_agg, List.map_cons, List.map_nil, List.getElem?_cons_succ, List.getElem?_cons_zero, Option.getD_some, Option.map_some, if_true, List.set_cons_succ, List.set_cons_zero, List.length_cons, List.length_nil, List.drop_succ_cons, List.drop_zero, List.take_succ_cons, List.take_zero, List.cons_append, List.nil_append, Nat.reduceAdd, Nat.reduceLeDiff, Nat.zero_add, Bool.false_eq_true, if_false, and_self, reduceCtorEq, beq_self_eq_true, ty_string, ty_api_Node, ty_api_VarDecl, st_api_VarDecl, sta_api_VarDecl, c1]
    with_reducible refine hR _ ?_
    clear hR R
    show X _ _ _ _
    refine X_ret ?_
    show resD _ _ _ = some _
    simp only [resD, resAll, resOne, resTup, Try.results53, EVP, mkD, ty_api_VarDecl, List.getElem?_cons_succ, List.getElem?_cons_zero, List.drop_zero, List.take_succ_cons, List.take_zero, List.length_cons, List.length_nil, Nat.reduceAdd, Nat.reduceLeDiff, Nat.zero_add, D.good, if_true, Option.map_some] <;> (first | (rfl; done) | (simp_all [declV, dV]; done) | (simp_all [declV, noV, dV]; rfl; done) | (exfalso; simp_all; done) | (trace_state; fail))
  · intro b2
    have c2 := b2
    try simp only [ne_eq, beq_eq_false_iff_ne] at c2
    refine X_skip ?_
    show X _ _ _ _
    refine X_seq ?_
    refine X_seq ?_
    refine X_rg fun R hR => ?_
    simp only [EVP, inr_u8, Int.reduceLE, aops, astep, awant, aeff, aop, abin, aint, mkD, ev, ofValue, St.put, ia_int, List.getElem?_cons_succ, List.getElem?_cons_zero, Option.getD_some, Option.map_some, if_true, List.set_cons_succ, List.set_cons_zero, List.length_cons, List.length_nil, List.drop_zero, List.take_succ_cons, List.take_zero, Nat.reduceAdd, Nat.reduceLeDiff, Nat.zero_add, Nat.add_zero, Bool.false_eq_true, if_false, and_self, reduceCtorEq, ty_uint8, ty_api_Node, b2]
    with_reducible refine hR _ ?_
    clear hR R
    show X _ _ _ _
    refine X_ite (by simp only [ev, List.getElem?_cons_succ, List.getElem?_cons_zero, Option.getD_some]; exact rfl) ?_ ?_
    · intro b3
      have c3 := b3
      try simp only [beq_iff_eq] at c3
      refine X_seq ?_
      refine X_rg fun R hR => ?_
      simp only [EVP, inr_u8, Int.reduceLE, aops, astep, awant, aeff, aop, mkD, afill, astore, ev, ofValue, St.put, gd_int, cl_int, gd_str, ia_str, cl_str, gd_agg, cl_agg, List.map_cons, List.map_nil, List.getElem?_cons_succ, List.getElem?_cons_zero, Option.getD_some, Option.map_some, if_true, List.set_cons_succ, List.set_cons_zero, List.length_cons, List.length_nil, List.drop_succ_cons, List.drop_zero, List.take_succ_cons, List.take_zero, List.cons_append, List.nil_append, Nat.reduceAdd, Nat.reduceLeDiff, Nat.zero_add, Bool.false_eq_true, if_false, and_self, reduceCtorEq, beq_self_eq_true, ty_string, ty_api_Node, ty_api_VarDecl, st_api_VarDecl, sta_api_VarDecl, c3]
      with_reducible refine hR _ ?_
      clear hR R
      show X _ _ _ _
      refine X_ret ?_
      show resD _ _ _ = some _
      simp only [resD, resAll, resOne, resTup, Try.results53, EVP, mkD, ty_api_VarDecl, List.getElem?_cons_succ, List.getElem?_cons_zero, List.drop_zero, List.take_succ_cons, List.take_zero, List.length_cons, List.length_nil, Nat.reduceAdd, Nat.reduceLeDiff, Nat.zero_add, D.good, if_true, Option.map_some] <;> (first | (rfl; done) | (simp_all [declV, dV]; done) | (simp_all [declV, noV, dV]; rfl; done) | (exfalso; simp_all; done) | (trace_state; fail))
    · intro b4
      have c4 := b4
      try simp only [ne_eq, beq_eq_false_iff_ne] at c4
      refine X_skip ?_
      show X _ _ _ _
      refine X_seq ?_
      refine X_rg fun R hR => ?_
      simp only [EVP, aops, astep, awant, aeff, aop, afill, astore, ev, ofValue, St.put, gd_agg, cl_agg, List.map_nil, List.getElem?_cons_succ, List.getElem?_cons_zero, Option.getD_some, Option.map_some, if_true, List.set_cons_succ, List.set_cons_zero, List.length_cons, List.length_nil, List.drop_succ_cons, List.drop_zero, List.take_zero, List.cons_append, List.nil_append, Nat.reduceAdd, Nat.reduceLeDiff, Nat.zero_add, and_self, ty_api_VarDecl, st_api_VarDecl, sta_api_VarDecl, b4]
      with_reducible refine hR _ ?_
      clear hR R
      show X _ _ _ _
      refine X_ret ?_
      show resD _ _ _ = some _
      simp only [resD, resAll, resOne, resTup, Try.results53, EVP, mkD, ty_api_VarDecl, List.getElem?_cons_succ, List.getElem?_cons_zero, List.drop_zero, List.take_succ_cons, List.take_zero, List.length_cons, List.length_nil, Nat.reduceAdd, Nat.reduceLeDiff, Nat.zero_add, D.good, if_true, Option.map_some] <;> (first | (rfl; done) | (simp_all [declV, noV, dV]; done) | (simp_all [declV, noV, dV]; rfl; done) | (exfalso; simp_all; done) | (trace_state; fail))
set_option maxRecDepth 100000 in
set_option maxHeartbeats 4000000 in
theorem block6_fn (t : Tr) : fn EV 56 [dN t] = some (.int .i64 (blkI t)) := by
  refine fn_X rfl Try.func56 rfl (by simp only [plain, List.all_cons, List.all_nil, dN_pl, Bool.and_true]) (rfl) (rfl) (rfl) ?_
  simp only [List.map_cons, List.map_nil, dN_strip]
  simp only [enterSt, Try.ntmps56, List.length_cons, List.length_nil, Nat.reduceAdd, Nat.reduceSub, List.replicate_succ, List.replicate_zero, List.cons_append, List.nil_append]
  refine X_seq ?_
  refine X_rg fun R hR => ?_
  simp only [inr_i64, Int.reduceLE, Int.reduceNeg, aops, astep, awant, aeff, aop, ev, ofValue, St.put, List.getElem?_cons_zero, Option.getD_some, Option.map_some, if_true, List.set_cons_succ, List.set_cons_zero, List.length_nil, List.nil_append, and_self, dN_cells, dN_good, sl]
  with_reducible refine hR _ ?_
  clear hR R
  show X _ _ _ _
  refine X_seq ?_
  refine X_seq ?_
  refine X_rg fun R hR => ?_
  simp only [EVP, inr_u8, Int.reduceLE, aops, astep, awant, aeff, aop, abin, aint, mkD, ev, ofValue, St.put, ia_int, List.getElem?_cons_succ, List.getElem?_cons_zero, Option.getD_some, Option.map_some, if_true, List.set_cons_succ, List.set_cons_zero, List.length_cons, List.length_nil, List.drop_zero, List.take_succ_cons, List.take_zero, Nat.reduceAdd, Nat.reduceLeDiff, Nat.zero_add, Nat.add_zero, Bool.false_eq_true, if_false, and_self, reduceCtorEq, ty_uint8, ty_api_Node]
  with_reducible refine hR _ ?_
  clear hR R
  show X _ _ _ _
  refine X_ite (by simp only [ev, List.getElem?_cons_succ, List.getElem?_cons_zero, Option.getD_some]; exact rfl) ?_ ?_
  · intro b1
    have c1 := b1
    try simp only [beq_iff_eq] at c1
    refine X_seq ?_
    refine X_rg fun R hR => ?_
    simp only [inr_i64, Int.reduceLE, Int.reduceNeg, aops, astep, awant, aeff, aop, ev, ofValue, St.put, Option.getD_some, Option.map_some, if_true, List.set_cons_succ, List.set_cons_zero, and_self, beq_self_eq_true, c1]
    with_reducible refine hR _ ?_
    clear hR R
    show X _ _ _ _
    refine X_ret ?_
    show resD _ _ _ = some _
    simp only [resD, resAll, resOne, resTup, Try.results56, EVP, List.getElem?_cons_succ, List.getElem?_cons_zero, D.good, if_true, Option.map_some] <;> (first | (rfl; done) | (simp_all [blkI]; done) | (exfalso; simp_all; done) | (trace_state; fail))
  · intro b2
    have c2 := b2
    try simp only [ne_eq, beq_eq_false_iff_ne] at c2
    refine X_skip ?_
    show X _ _ _ _
    refine X_seq ?_
    refine X_rg fun R hR => ?_
    simp only [inr_i64, Int.reduceLE, Int.reduceNeg, aops, astep, awant, aeff, aop, ev, ofValue, St.put, Option.getD_some, Option.map_some, if_true, List.set_cons_succ, List.set_cons_zero, and_self, b2]
    with_reducible refine hR _ ?_
    clear hR R
    show X _ _ _ _
    refine X_ret ?_
    show resD _ _ _ = some _
    simp only [resD, resAll, resOne, resTup, Try.results56, EVP, List.getElem?_cons_succ, List.getElem?_cons_zero, D.good, if_true, Option.map_some] <;> (first | (rfl; done) | (simp_all [blkI]; done) | (exfalso; simp_all; done) | (trace_state; fail))
set_option maxRecDepth 100000 in
set_option maxHeartbeats 4000000 in
theorem ruse_fn (vs : List Vd) (s : ByteArray) (k : Int) (hl : vs.length ≤ 1000000) : fn EV 80 [sl 3 (vs.map dV), .str s, .int .u8 k] = some (.int .i64 (useE vs s k)) := by
  refine fn_X rfl Try.func80 rfl (by simp only [plain, List.all_cons, List.all_nil, sl_pl (f := dV) (fun _ _ => rfl), str_pl, int_pl, Bool.and_true]) (rfl) (rfl) (rfl) ?_
  simp only [List.map_cons, List.map_nil, D.strip, sl_strip (map_strip (f := dV) (fun _ => rfl) _)]
  simp only [enterSt, Try.ntmps80, List.length_cons, List.length_nil, Nat.reduceAdd, Nat.reduceSub, List.replicate_succ, List.replicate_zero, List.cons_append, List.nil_append]
  refine X_seq ?_
  refine X_rg fun R hR => ?_
  simp only [inr_i64, Int.reduceLE, Int.reduceNeg, aops, astep, awant, aeff, aop, ev, ofValue, St.put, Option.getD_some, Option.map_some, if_true, List.set_cons_succ, List.set_cons_zero, and_self, sl]
  with_reducible refine hR _ ?_
  clear hR R
  show X _ _ _ _
  refine X_seq ?_
  have hF := rfind_fn vs s (by omega)
  simp only [sl] at hF
  refine X_rg fun R hR => ?_
  simp only [EVP, aops, astep, awant, aeff, aop, astore, ev, St.put, pcall, List.map_cons, List.map_nil, List.getElem?_cons_succ, List.getElem?_cons_zero, Option.getD_some, Option.map_some, Option.bind_some, if_true, List.set_cons_succ, List.set_cons_zero, List.length_cons, List.length_nil, List.drop_succ_cons, List.drop_zero, List.take_zero, List.cons_append, List.nil_append, Nat.reduceAdd, Nat.reduceLeDiff, Nat.zero_add, and_self, ty_api_VarDecl, any14, dV_cells, dV_good, hF]
  with_reducible refine hR _ ?_
  clear hR R
  show X _ _ _ _
  refine X_seq ?_
  refine X_seq ?_
  refine X_rg fun R hR => ?_
  simp only [aops, astep, awant, aeff, aop, ev, St.put, List.getElem?_cons_succ, List.getElem?_cons_zero, Option.getD_some, Option.map_some, if_true, List.set_cons_succ, List.set_cons_zero]
  with_reducible refine hR _ ?_
  clear hR R
  show X _ _ _ _
  refine X_ite (by simp only [ev, List.getElem?_cons_succ, List.getElem?_cons_zero, Option.getD_some]; exact rfl) ?_ ?_
  · intro b1
    have c1 := b1
    try simp only [Bool.not_eq_true'] at c1
    refine X_seq ?_
    refine X_rg fun R hR => ?_
    simp only [inr_i64, Int.reduceLE, Int.reduceNeg, aops, astep, awant, aeff, aop, ev, ofValue, St.put, Option.getD_some, Option.map_some, if_true, List.set_cons_succ, List.set_cons_zero, Bool.not_false, and_self, c1]
    with_reducible refine hR _ ?_
    clear hR R
    show X _ _ _ _
    refine X_ret ?_
    show resD _ _ _ = some _
    simp only [resD, resAll, resOne, resTup, Try.results80, EVP, List.getElem?_cons_succ, List.getElem?_cons_zero, D.good, if_true, Option.map_some] <;> (first | (rfl; done) | (simp_all [useE]; done) | (exfalso; simp_all; done) | (trace_state; fail))
  · intro b2
    have c2 := b2
    try simp only [Bool.not_eq_false'] at c2
    refine X_skip ?_
    show X _ _ _ _
    refine X_seq ?_
    refine X_seq ?_
    refine X_rg fun R hR => ?_
    simp only [EVP, aops, astep, awant, aeff, aop, abin, aint, mkD, ev, St.put, ia_int, List.getElem?_cons_succ, List.getElem?_cons_zero, Option.getD_some, Option.map_some, if_true, List.set_cons_succ, List.set_cons_zero, List.length_cons, List.length_nil, List.drop_succ_cons, List.drop_zero, List.take_succ_cons, List.take_zero, Nat.reduceAdd, Nat.reduceLeDiff, Nat.zero_add, Bool.not_true, Bool.false_eq_true, if_false, reduceCtorEq, ty_uint8, ty_api_VarDecl, c2]
    with_reducible refine hR _ ?_
    clear hR R
    show X _ _ _ _
    refine X_ite (by simp only [ev, List.getElem?_cons_succ, List.getElem?_cons_zero, Option.getD_some]; exact rfl) ?_ ?_
    · intro b3
      have c3 := b3
      try simp only [bne_iff_ne, ne_eq] at c3
      refine X_seq ?_
      refine X_rg fun R hR => ?_
      simp only [inr_i64, Int.reduceLE, Int.reduceNeg, aops, astep, awant, aeff, aop, ev, ofValue, St.put, Option.getD_some, Option.map_some, if_true, List.set_cons_succ, List.set_cons_zero, and_self, b3]
      with_reducible refine hR _ ?_
      clear hR R
      show X _ _ _ _
      refine X_ret ?_
      show resD _ _ _ = some _
      simp only [resD, resAll, resOne, resTup, Try.results80, EVP, List.getElem?_cons_succ, List.getElem?_cons_zero, D.good, if_true, Option.map_some] <;> (first | (rfl; done) | (simp_all [useE]; done) | (exfalso; simp_all; done) | (trace_state; fail))
    · intro b4
      have c4 := b4
      try simp only [bne_eq_false_iff_eq] at c4
      refine X_skip ?_
      show X _ _ _ _
      refine X_seq ?_
      refine X_rg fun R hR => ?_
      simp only [inr_i64, Int.reduceLE, Int.reduceNeg, aops, astep, awant, aeff, aop, ev, ofValue, St.put, Option.getD_some, Option.map_some, if_true, List.set_cons_succ, List.set_cons_zero, and_self, bne_self_eq_false, c4]
      with_reducible refine hR _ ?_
      clear hR R
      show X _ _ _ _
      refine X_ret ?_
      show resD _ _ _ = some _
      simp only [resD, resAll, resOne, resTup, Try.results80, EVP, List.getElem?_cons_succ, List.getElem?_cons_zero, D.good, if_true, Option.map_some] <;> (first | (rfl; done) | (simp_all [useE]; done) | (exfalso; simp_all; done) | (trace_state; fail))
set_option maxRecDepth 100000 in
set_option maxHeartbeats 4000000 in
theorem own_fn (p : Pg) (t : Tr) (vs : List Vd) (hl : vs.length ≤ 1000000) (hp : p.procs.length ≤ 1000000) : fn EV 64 [dG p, sl 3 (vs.map dV), dN t] = some (.int .i64 (faultE p t vs)) := by
  refine fn_X rfl Try.func64 rfl (by simp only [plain, List.all_cons, List.all_nil, sl_pl (f := dV) (fun _ _ => rfl), dN_pl, dG_pl, Bool.and_true]) (rfl) (rfl) (rfl) ?_
  simp only [List.map_cons, List.map_nil, sl_strip (map_strip (f := dV) (fun _ => rfl) _), dN_strip, dG_strip]
  simp only [enterSt, Try.ntmps64, List.length_cons, List.length_nil, Nat.reduceAdd, Nat.reduceSub, List.replicate_succ, List.replicate_zero, List.cons_append, List.nil_append]
  refine X_seq ?_
  refine X_rg fun R hR => ?_
  simp only [inr_i64, Int.reduceLE, Int.reduceNeg, aops, astep, awant, aeff, aop, ev, ofValue, St.put, List.getElem?_cons_succ, List.getElem?_cons_zero, Option.getD_some, Option.map_some, if_true, List.set_cons_succ, List.set_cons_zero, List.length_cons, List.length_nil, List.cons_append, List.nil_append, Nat.zero_add, and_self, dN_cells, dN_good, sl, dG_cells, dG_good]
  with_reducible refine hR _ ?_
  clear hR R
  show X _ _ _ _
  refine X_seq ?_
  refine X_seq ?_
  refine X_rg fun R hR => ?_
  simp only [EVP, aops, astep, awant, aeff, aop, mkD, ev, St.put, ia_int, List.getElem?_cons_succ, List.getElem?_cons_zero, Option.getD_some, Option.map_some, if_true, List.set_cons_succ, List.set_cons_zero, List.length_cons, List.length_nil, List.drop_zero, List.take_succ_cons, List.take_zero, Nat.reduceAdd, Nat.reduceLeDiff, Nat.zero_add, Nat.add_zero, Bool.false_eq_true, if_false, reduceCtorEq, ty_uint8, ty_api_Node]
  with_reducible refine hR _ ?_
  clear hR R
  show X _ _ _ _
  refine X_block ?_
  refine X_seq ?_
  refine X_rg fun R hR => ?_
  simp only [inr_u8, Int.reduceLE, aops, astep, awant, aeff, aop, abin, aint, ev, ofValue, St.put, List.getElem?_cons_succ, List.getElem?_cons_zero, Option.getD_some, Option.map_some, if_true, List.set_cons_succ, List.set_cons_zero, and_self]
  with_reducible refine hR _ ?_
  clear hR R
  show X _ _ _ _
  refine X_ite (by simp only [ev, List.getElem?_cons_succ, List.getElem?_cons_zero, Option.getD_some]; exact rfl) ?_ ?_
  · intro b1
    have c1 := b1
    try simp only [beq_iff_eq] at c1
    refine X_seq ?_
    have hU := ruse_fn vs t.name 1 hl
    simp only [sl] at hU
    refine X_rg fun R hR => ?_
    simp only [EVP, inr_u8, Int.reduceLE, aops, astep, awant, aeff, aop, mkD, ev, ofValue, St.put, pcall, ia_str, List.map_cons, List.map_nil, List.getElem?_cons_succ, List.getElem?_cons_zero, Option.getD_some, Option.map_some, if_true, List.set_cons_succ, List.set_cons_zero, List.length_cons, List.length_nil, List.drop_succ_cons, List.drop_zero, List.take_succ_cons, List.take_zero, List.cons_append, List.nil_append, Nat.reduceAdd, Nat.reduceLeDiff, Nat.zero_add, Bool.false_eq_true, if_false, and_self, reduceCtorEq, beq_self_eq_true, ty_string, ty_api_Node, any80, c1, hU]
    with_reducible refine hR _ ?_
    clear hR R
    show X _ _ _ _
    refine X_ret ?_
    show resD _ _ _ = some _
    simp only [resD, resAll, resOne, resTup, Try.results64, EVP, List.getElem?_cons_succ, List.getElem?_cons_zero, D.good, if_true, Option.map_some] <;> (first | (rfl; done) | (simp_all [faultE]; done) | (simp_all [faultE, freshE, prmN_eq]; omega; done) | (exfalso; simp_all; done) | (trace_state; fail))
  · intro b2
    have c2 := b2
    try simp only [ne_eq, beq_eq_false_iff_ne] at c2
    refine X_seq ?_
    refine X_rg fun R hR => ?_
    simp only [inr_u8, Int.reduceLE, aops, astep, awant, aeff, aop, abin, aint, ev, ofValue, St.put, List.getElem?_cons_succ, List.getElem?_cons_zero, Option.getD_some, Option.map_some, if_true, List.set_cons_succ, List.set_cons_zero, and_self, b2]
    with_reducible refine hR _ ?_
    clear hR R
    show X _ _ _ _
    refine X_ite (by simp only [ev, List.getElem?_cons_succ, List.getElem?_cons_zero, Option.getD_some]; exact rfl) ?_ ?_
    · intro b3
      have c3 := b3
      try simp only [beq_iff_eq] at c3
      refine X_seq ?_
      have hU := ruse_fn vs t.name 2 hl
      simp only [sl] at hU
      refine X_rg fun R hR => ?_
      simp only [EVP, inr_u8, Int.reduceLE, aops, astep, awant, aeff, aop, mkD, ev, ofValue, St.put, pcall, ia_str, List.map_cons, List.map_nil, List.getElem?_cons_succ, List.getElem?_cons_zero, Option.getD_some, Option.map_some, if_true, List.set_cons_succ, List.set_cons_zero, List.length_cons, List.length_nil, List.drop_succ_cons, List.drop_zero, List.take_succ_cons, List.take_zero, List.cons_append, List.nil_append, Nat.reduceAdd, Nat.reduceLeDiff, Nat.zero_add, Bool.false_eq_true, if_false, and_self, reduceCtorEq, beq_self_eq_true, ty_string, ty_api_Node, any80, c3, hU]
      with_reducible refine hR _ ?_
      clear hR R
      show X _ _ _ _
      refine X_ret ?_
      show resD _ _ _ = some _
      simp only [resD, resAll, resOne, resTup, Try.results64, EVP, List.getElem?_cons_succ, List.getElem?_cons_zero, D.good, if_true, Option.map_some] <;> (first | (rfl; done) | (simp_all [faultE]; done) | (simp_all [faultE, freshE, prmN_eq]; omega; done) | (exfalso; simp_all; done) | (trace_state; fail))
    · intro b4
      have c4 := b4
      try simp only [ne_eq, beq_eq_false_iff_ne] at c4
      refine X_seq ?_
      refine X_seq ?_
      refine X_rg fun R hR => ?_
      simp only [inr_u8, Int.reduceLE, aops, astep, awant, aeff, aop, abin, aint, ev, ofValue, St.put, List.getElem?_cons_succ, List.getElem?_cons_zero, Option.getD_some, Option.map_some, if_true, List.set_cons_succ, List.set_cons_zero, and_self, b4]
      with_reducible refine hR _ ?_
      clear hR R
      show X _ _ _ _
      refine X_ite (by simp only [ev, List.getElem?_cons_succ, List.getElem?_cons_zero, Option.getD_some]; exact rfl) ?_ ?_
      · intro b5
        have c5 := b5
        try simp only [beq_iff_eq] at c5
        refine X_skip ?_
        show X _ _ _ _
        refine X_true (by simp only [ev, List.getElem?_cons_succ, List.getElem?_cons_zero, Option.getD_some, beq_self_eq_true, c5]) ?_
        refine X_seq ?_
        have hU := ruse_fn vs t.name 3 hl
        simp only [sl] at hU
        refine X_rg fun R hR => ?_
        simp only [EVP, inr_u8, Int.reduceLE, aops, astep, awant, aeff, aop, mkD, ev, ofValue, St.put, pcall, ia_str, List.map_cons, List.map_nil, List.getElem?_cons_succ, List.getElem?_cons_zero, Option.getD_some, Option.map_some, if_true, List.set_cons_succ, List.set_cons_zero, List.length_cons, List.length_nil, List.drop_succ_cons, List.drop_zero, List.take_succ_cons, List.take_zero, List.cons_append, List.nil_append, Nat.reduceAdd, Nat.reduceLeDiff, Nat.zero_add, Bool.false_eq_true, if_false, and_self, reduceCtorEq, beq_self_eq_true, ty_string, ty_api_Node, any80, c5, hU]
        with_reducible refine hR _ ?_
        clear hR R
        show X _ _ _ _
        refine X_ret ?_
        show resD _ _ _ = some _
        simp only [resD, resAll, resOne, resTup, Try.results64, EVP, List.getElem?_cons_succ, List.getElem?_cons_zero, D.good, if_true, Option.map_some] <;> (first | (rfl; done) | (simp_all [faultE]; done) | (simp_all [faultE, freshE, prmN_eq]; omega; done) | (exfalso; simp_all; done) | (trace_state; fail))
      · intro b6
        have c6 := b6
        try simp only [ne_eq, beq_eq_false_iff_ne] at c6
        refine X_seq ?_
        refine X_rg fun R hR => ?_
        simp only [inr_u8, Int.reduceLE, aops, astep, awant, aeff, aop, abin, aint, ev, ofValue, St.put, List.getElem?_cons_succ, List.getElem?_cons_zero, Option.getD_some, Option.map_some, if_true, List.set_cons_succ, List.set_cons_zero, and_self, b6]
        with_reducible refine hR _ ?_
        clear hR R
        show X _ _ _ _
        refine X_ite (by simp only [ev, List.getElem?_cons_succ, List.getElem?_cons_zero, Option.getD_some]; exact rfl) ?_ ?_
        · intro b7
          have c7 := b7
          try simp only [beq_iff_eq] at c7
          refine X_skip ?_
          show X _ _ _ _
          refine X_true (by simp only [ev, List.getElem?_cons_succ, List.getElem?_cons_zero, Option.getD_some, beq_self_eq_true, c7]) ?_
          refine X_seq ?_
          have hU := ruse_fn vs t.name 3 hl
          simp only [sl] at hU
          refine X_rg fun R hR => ?_
          simp only [EVP, inr_u8, Int.reduceLE, aops, astep, awant, aeff, aop, mkD, ev, ofValue, St.put, pcall, ia_str, List.map_cons, List.map_nil, List.getElem?_cons_succ, List.getElem?_cons_zero, Option.getD_some, Option.map_some, if_true, List.set_cons_succ, List.set_cons_zero, List.length_cons, List.length_nil, List.drop_succ_cons, List.drop_zero, List.take_succ_cons, List.take_zero, List.cons_append, List.nil_append, Nat.reduceAdd, Nat.reduceLeDiff, Nat.zero_add, Bool.false_eq_true, if_false, and_self, reduceCtorEq, beq_self_eq_true, ty_string, ty_api_Node, any80, c7, hU]
          with_reducible refine hR _ ?_
          clear hR R
          show X _ _ _ _
          refine X_ret ?_
          show resD _ _ _ = some _
          simp only [resD, resAll, resOne, resTup, Try.results64, EVP, List.getElem?_cons_succ, List.getElem?_cons_zero, D.good, if_true, Option.map_some] <;> (first | (rfl; done) | (simp_all [faultE]; done) | (simp_all [faultE, freshE, prmN_eq]; omega; done) | (exfalso; simp_all; done) | (trace_state; fail))
        · intro b8
          have c8 := b8
          try simp only [ne_eq, beq_eq_false_iff_ne] at c8
          refine X_seq ?_
          refine X_rg fun R hR => ?_
          simp only [inr_u8, Int.reduceLE, aops, astep, awant, aeff, aop, abin, aint, ev, ofValue, St.put, List.getElem?_cons_succ, List.getElem?_cons_zero, Option.getD_some, Option.map_some, if_true, List.set_cons_succ, List.set_cons_zero, and_self, b8]
          with_reducible refine hR _ ?_
          clear hR R
          show X _ _ _ _
          refine X_ite (by simp only [ev, List.getElem?_cons_succ, List.getElem?_cons_zero, Option.getD_some]; exact rfl) ?_ ?_
          · intro b9
            have c9 := b9
            try simp only [beq_iff_eq] at c9
            refine X_skip ?_
            show X _ _ _ _
            refine X_true (by simp only [ev, List.getElem?_cons_succ, List.getElem?_cons_zero, Option.getD_some, beq_self_eq_true, c9]) ?_
            refine X_seq ?_
            have hU := ruse_fn vs t.name 3 hl
            simp only [sl] at hU
            refine X_rg fun R hR => ?_
            simp only [EVP, inr_u8, Int.reduceLE, aops, astep, awant, aeff, aop, mkD, ev, ofValue, St.put, pcall, ia_str, List.map_cons, List.map_nil, List.getElem?_cons_succ, List.getElem?_cons_zero, Option.getD_some, Option.map_some, if_true, List.set_cons_succ, List.set_cons_zero, List.length_cons, List.length_nil, List.drop_succ_cons, List.drop_zero, List.take_succ_cons, List.take_zero, List.cons_append, List.nil_append, Nat.reduceAdd, Nat.reduceLeDiff, Nat.zero_add, Bool.false_eq_true, if_false, and_self, reduceCtorEq, beq_self_eq_true, ty_string, ty_api_Node, any80, c9, hU]
            with_reducible refine hR _ ?_
            clear hR R
            show X _ _ _ _
            refine X_ret ?_
            show resD _ _ _ = some _
            simp only [resD, resAll, resOne, resTup, Try.results64, EVP, List.getElem?_cons_succ, List.getElem?_cons_zero, D.good, if_true, Option.map_some] <;> (first | (rfl; done) | (simp_all [faultE]; done) | (simp_all [faultE, freshE, prmN_eq]; omega; done) | (exfalso; simp_all; done) | (trace_state; fail))
          · intro b10
            have c10 := b10
            try simp only [ne_eq, beq_eq_false_iff_ne] at c10
            refine X_rg fun R hR => ?_
            simp only [inr_u8, Int.reduceLE, aops, astep, awant, aeff, aop, abin, aint, ev, ofValue, St.put, List.getElem?_cons_succ, List.getElem?_cons_zero, Option.getD_some, Option.map_some, if_true, List.set_cons_succ, List.set_cons_zero, and_self, b10]
            with_reducible refine hR _ ?_
            clear hR R
            show X _ _ _ _
            refine X_ite (by simp only [ev, List.getElem?_cons_succ, List.getElem?_cons_zero, Option.getD_some]; exact rfl) ?_ ?_
            · intro b11
              have c11 := b11
              try simp only [beq_iff_eq] at c11
              refine X_seq ?_
              have hU := ruse_fn vs t.name 3 hl
              simp only [sl] at hU
              refine X_rg fun R hR => ?_
              simp only [EVP, inr_u8, Int.reduceLE, aops, astep, awant, aeff, aop, mkD, ev, ofValue, St.put, pcall, ia_str, List.map_cons, List.map_nil, List.getElem?_cons_succ, List.getElem?_cons_zero, Option.getD_some, Option.map_some, if_true, List.set_cons_succ, List.set_cons_zero, List.length_cons, List.length_nil, List.drop_succ_cons, List.drop_zero, List.take_succ_cons, List.take_zero, List.cons_append, List.nil_append, Nat.reduceAdd, Nat.reduceLeDiff, Nat.zero_add, Bool.false_eq_true, if_false, and_self, reduceCtorEq, beq_self_eq_true, ty_string, ty_api_Node, any80, c11, hU]
              with_reducible refine hR _ ?_
              clear hR R
              show X _ _ _ _
              refine X_ret ?_
              show resD _ _ _ = some _
              simp only [resD, resAll, resOne, resTup, Try.results64, EVP, List.getElem?_cons_succ, List.getElem?_cons_zero, D.good, if_true, Option.map_some] <;> (first | (rfl; done) | (simp_all [faultE]; done) | (simp_all [faultE, freshE, prmN_eq]; omega; done) | (exfalso; simp_all; done) | (trace_state; fail))
            · intro b12
              have c12 := b12
              try simp only [ne_eq, beq_eq_false_iff_ne] at c12
              refine X_seq ?_
              refine X_seq ?_
              refine X_rg fun R hR => ?_
              simp only [inr_u8, Int.reduceLE, aops, astep, awant, aeff, aop, abin, aint, ev, ofValue, St.put, List.getElem?_cons_succ, List.getElem?_cons_zero, Option.getD_some, Option.map_some, if_true, List.set_cons_succ, List.set_cons_zero, and_self, b12]
              with_reducible refine hR _ ?_
              clear hR R
              show X _ _ _ _
              refine X_ite (by simp only [ev, List.getElem?_cons_succ, List.getElem?_cons_zero, Option.getD_some]; exact rfl) ?_ ?_
              · intro b13
                have c13 := b13
                try simp only [beq_iff_eq] at c13
                refine X_skip ?_
                show X _ _ _ _
                refine X_true (by simp only [ev, List.getElem?_cons_succ, List.getElem?_cons_zero, Option.getD_some, beq_self_eq_true, c13]) ?_
                refine X_seq ?_
                have hP := rproc_fn p t.name (by omega)
                have hP2 : idxN p.procs t.name 0 p.procs.length = procI p t.name := rfl
                rw [hP2] at hP
                refine X_rg fun R hR => ?_
                simp only [EVP, aops, astep, awant, aeff, aop, mkD, ev, St.put, pcall, ia_str, List.map_cons, List.map_nil, List.getElem?_cons_succ, List.getElem?_cons_zero, Option.getD_some, Option.map_some, if_true, List.set_cons_succ, List.set_cons_zero, List.length_cons, List.length_nil, List.drop_succ_cons, List.drop_zero, List.take_succ_cons, List.take_zero, List.cons_append, List.nil_append, Nat.reduceAdd, Nat.reduceLeDiff, Nat.zero_add, Bool.false_eq_true, if_false, reduceCtorEq, beq_self_eq_true, ty_string, ty_api_Node, ty_api_Program, any16, dG_agg, c13, hP]
                with_reducible refine hR _ ?_
                clear hR R
                show X _ _ _ _
                refine X_seq ?_
                refine X_seq ?_
                refine X_rg fun R hR => ?_
                simp only [inr_i64, Int.reduceLE, Int.reduceNeg, aops, astep, awant, aeff, aop, abin, aint, ev, ofValue, St.put, List.getElem?_cons_succ, List.getElem?_cons_zero, Option.getD_some, Option.map_some, if_true, List.set_cons_succ, List.set_cons_zero, and_self]
                with_reducible refine hR _ ?_
                clear hR R
                show X _ _ _ _
                refine X_ite (by simp only [ev, List.getElem?_cons_succ, List.getElem?_cons_zero, Option.getD_some]; exact rfl) ?_ ?_
                · intro b14
                  have c14 := b14
                  try simp only [decide_eq_true_eq] at c14
                  refine X_seq ?_
                  refine X_rg fun R hR => ?_
                  simp only [inr_i64, Int.reduceLE, Int.reduceNeg, aops, astep, awant, aeff, aop, ev, ofValue, St.put, Option.getD_some, Option.map_some, if_true, List.set_cons_succ, List.set_cons_zero, and_self, decide_true, c14]
                  with_reducible refine hR _ ?_
                  clear hR R
                  show X _ _ _ _
                  refine X_ret ?_
                  show resD _ _ _ = some _
                  simp only [resD, resAll, resOne, resTup, Try.results64, EVP, List.getElem?_cons_succ, List.getElem?_cons_zero, D.good, if_true, Option.map_some] <;> (first | (rfl; done) | (simp_all [faultE]; done) | (simp_all [faultE, freshE, prmN_eq]; omega; done) | (exfalso; simp_all; done) | (trace_state; fail))
                · intro b15
                  have c15 := b15
                  try simp only [decide_eq_false_iff_not, Int.not_lt] at c15
                  refine X_skip ?_
                  show X _ _ _ _
                  refine X_seq ?_
                  have pq2 : 0 ≤ procI p t.name → _ := fun h => pq_2 (p := p) (s := t.name) h
                  refine X_rg fun R hR => ?_
                  simp only [EVP, aops, astep, awant, aeff, aop, abin, aint, mkD, ev, St.put, ia_slice, cl_slice, List.getElem?_cons_succ, List.getElem?_cons_zero, Option.getD_some, Option.map_some, if_true, List.set_cons_succ, List.set_cons_zero, List.length_map, List.length_cons, List.length_nil, List.drop_succ_cons, List.drop_zero, List.take_succ_cons, List.take_zero, Nat.reduceAdd, Nat.reduceLeDiff, Nat.zero_add, Bool.false_eq_true, if_false, and_self, reduceCtorEq, Option.isSome_some, ty_s_api_Node, ty_s_api_VarDecl, ty_s_api_Proc, ty_api_Node, ty_api_Proc, ty_api_Program, und_api_Node, und_api_VarDecl, und_api_Proc, siz_api_Proc, inf_api_Proc_eq, sl, dP, b15, c15, pq_1, pq2, pq_3]
                  with_reducible refine hR _ ?_
                  clear hR R
                  show X _ _ _ _
                  refine X_ite (by simp only [ev, List.getElem?_cons_succ, List.getElem?_cons_zero, Option.getD_some]; exact rfl) ?_ ?_
                  · intro b16
                    have c16 := b16
                    try simp only [bne_iff_ne, ne_eq] at c16
                    refine X_seq ?_
                    refine X_rg fun R hR => ?_
                    simp only [inr_i64, Int.reduceLE, Int.reduceNeg, aops, astep, awant, aeff, aop, ev, ofValue, St.put, Option.getD_some, Option.map_some, if_true, List.set_cons_succ, List.set_cons_zero, and_self, b16]
                    with_reducible refine hR _ ?_
                    clear hR R
                    show X _ _ _ _
                    refine X_ret ?_
                    show resD _ _ _ = some _
                    simp only [resD, resAll, resOne, resTup, Try.results64, EVP, List.getElem?_cons_succ, List.getElem?_cons_zero, D.good, if_true, Option.map_some] <;> (first | (rfl; done) | (simp_all [faultE, prmN_eq]; done) | (simp_all [faultE, prmN_eq]; omega; done) | (exfalso; simp_all; done) | (trace_state; fail))
                  · intro b17
                    have c17 := b17
                    try simp only [bne_eq_false_iff_eq] at c17
                    refine X_skip ?_
                    show X _ _ _ _
                    refine X_seq ?_
                    refine X_rg fun R hR => ?_
                    simp only [inr_i64, Int.reduceLE, Int.reduceNeg, aops, astep, awant, aeff, aop, ev, ofValue, St.put, Option.getD_some, Option.map_some, if_true, List.set_cons_succ, List.set_cons_zero, and_self, bne_self_eq_false, c17]
                    with_reducible refine hR _ ?_
                    clear hR R
                    show X _ _ _ _
                    refine X_ret ?_
                    show resD _ _ _ = some _
                    simp only [resD, resAll, resOne, resTup, Try.results64, EVP, List.getElem?_cons_succ, List.getElem?_cons_zero, D.good, if_true, Option.map_some] <;> (first | (rfl; done) | (simp_all [faultE, prmN_eq]; done) | (simp_all [faultE, prmN_eq]; omega; done) | (exfalso; simp_all; done) | (trace_state; fail))
              · intro b18
                have c18 := b18
                try simp only [ne_eq, beq_eq_false_iff_ne] at c18
                refine X_rg fun R hR => ?_
                simp only [inr_u8, Int.reduceLE, aops, astep, awant, aeff, aop, abin, aint, ev, ofValue, St.put, List.getElem?_cons_succ, List.getElem?_cons_zero, Option.getD_some, Option.map_some, if_true, List.set_cons_succ, List.set_cons_zero, and_self, b18]
                with_reducible refine hR _ ?_
                clear hR R
                show X _ _ _ _
                refine X_ite (by simp only [ev, List.getElem?_cons_succ, List.getElem?_cons_zero, Option.getD_some]; exact rfl) ?_ ?_
                · intro b19
                  have c19 := b19
                  try simp only [beq_iff_eq] at c19
                  refine X_seq ?_
                  have hP := rproc_fn p t.name (by omega)
                  have hP2 : idxN p.procs t.name 0 p.procs.length = procI p t.name := rfl
                  rw [hP2] at hP
                  refine X_rg fun R hR => ?_
                  simp only [EVP, aops, astep, awant, aeff, aop, mkD, ev, St.put, pcall, ia_str, List.map_cons, List.map_nil, List.getElem?_cons_succ, List.getElem?_cons_zero, Option.getD_some, Option.map_some, if_true, List.set_cons_succ, List.set_cons_zero, List.length_cons, List.length_nil, List.drop_succ_cons, List.drop_zero, List.take_succ_cons, List.take_zero, List.cons_append, List.nil_append, Nat.reduceAdd, Nat.reduceLeDiff, Nat.zero_add, Bool.false_eq_true, if_false, reduceCtorEq, beq_self_eq_true, ty_string, ty_api_Node, ty_api_Program, any16, dG_agg, c19, hP]
                  with_reducible refine hR _ ?_
                  clear hR R
                  show X _ _ _ _
                  refine X_seq ?_
                  refine X_seq ?_
                  refine X_rg fun R hR => ?_
                  simp only [inr_i64, Int.reduceLE, Int.reduceNeg, aops, astep, awant, aeff, aop, abin, aint, ev, ofValue, St.put, List.getElem?_cons_succ, List.getElem?_cons_zero, Option.getD_some, Option.map_some, if_true, List.set_cons_succ, List.set_cons_zero, and_self]
                  with_reducible refine hR _ ?_
                  clear hR R
                  show X _ _ _ _
                  refine X_ite (by simp only [ev, List.getElem?_cons_succ, List.getElem?_cons_zero, Option.getD_some]; exact rfl) ?_ ?_
                  · intro b20
                    have c20 := b20
                    try simp only [decide_eq_true_eq] at c20
                    refine X_seq ?_
                    refine X_rg fun R hR => ?_
                    simp only [inr_i64, Int.reduceLE, Int.reduceNeg, aops, astep, awant, aeff, aop, ev, ofValue, St.put, Option.getD_some, Option.map_some, if_true, List.set_cons_succ, List.set_cons_zero, and_self, decide_true, c20]
                    with_reducible refine hR _ ?_
                    clear hR R
                    show X _ _ _ _
                    refine X_ret ?_
                    show resD _ _ _ = some _
                    simp only [resD, resAll, resOne, resTup, Try.results64, EVP, List.getElem?_cons_succ, List.getElem?_cons_zero, D.good, if_true, Option.map_some] <;> (first | (rfl; done) | (simp_all [faultE]; done) | (simp_all [faultE, freshE, prmN_eq]; omega; done) | (exfalso; simp_all; done) | (trace_state; fail))
                  · intro b21
                    have c21 := b21
                    try simp only [decide_eq_false_iff_not, Int.not_lt] at c21
                    refine X_skip ?_
                    show X _ _ _ _
                    refine X_seq ?_
                    have pq2 : 0 ≤ procI p t.name → _ := fun h => pq_2 (p := p) (s := t.name) h
                    refine X_rg fun R hR => ?_
                    simp only [EVP, aops, astep, awant, aeff, aop, abin, aint, mkD, ev, St.put, ia_slice, cl_slice, List.getElem?_cons_succ, List.getElem?_cons_zero, Option.getD_some, Option.map_some, if_true, List.set_cons_succ, List.set_cons_zero, List.length_map, List.length_cons, List.length_nil, List.drop_succ_cons, List.drop_zero, List.take_succ_cons, List.take_zero, Nat.reduceAdd, Nat.reduceLeDiff, Nat.zero_add, Bool.false_eq_true, if_false, and_self, reduceCtorEq, Option.isSome_some, ty_s_api_Node, ty_s_api_VarDecl, ty_s_api_Proc, ty_api_Node, ty_api_Proc, ty_api_Program, und_api_Node, und_api_VarDecl, und_api_Proc, siz_api_Proc, inf_api_Proc_eq, sl, dP, b21, c21, pq_1, pq2, pq_3]
                    with_reducible refine hR _ ?_
                    clear hR R
                    show X _ _ _ _
                    refine X_ite (by simp only [ev, List.getElem?_cons_succ, List.getElem?_cons_zero, Option.getD_some]; exact rfl) ?_ ?_
                    · intro b22
                      have c22 := b22
                      try simp only [bne_iff_ne, ne_eq] at c22
                      refine X_seq ?_
                      refine X_rg fun R hR => ?_
                      simp only [inr_i64, Int.reduceLE, Int.reduceNeg, aops, astep, awant, aeff, aop, ev, ofValue, St.put, Option.getD_some, Option.map_some, if_true, List.set_cons_succ, List.set_cons_zero, and_self, b22]
                      with_reducible refine hR _ ?_
                      clear hR R
                      show X _ _ _ _
                      refine X_ret ?_
                      show resD _ _ _ = some _
                      simp only [resD, resAll, resOne, resTup, Try.results64, EVP, List.getElem?_cons_succ, List.getElem?_cons_zero, D.good, if_true, Option.map_some] <;> (first | (rfl; done) | (simp_all [faultE, prmN_eq]; done) | (simp_all [faultE, prmN_eq]; omega; done) | (exfalso; simp_all; done) | (trace_state; fail))
                    · intro b23
                      have c23 := b23
                      try simp only [bne_eq_false_iff_eq] at c23
                      refine X_skip ?_
                      show X _ _ _ _
                      refine X_seq ?_
                      refine X_rg fun R hR => ?_
                      simp only [inr_i64, Int.reduceLE, Int.reduceNeg, aops, astep, awant, aeff, aop, ev, ofValue, St.put, Option.getD_some, Option.map_some, if_true, List.set_cons_succ, List.set_cons_zero, and_self, bne_self_eq_false, c23]
                      with_reducible refine hR _ ?_
                      clear hR R
                      show X _ _ _ _
                      refine X_ret ?_
                      show resD _ _ _ = some _
                      simp only [resD, resAll, resOne, resTup, Try.results64, EVP, List.getElem?_cons_succ, List.getElem?_cons_zero, D.good, if_true, Option.map_some] <;> (first | (rfl; done) | (simp_all [faultE, prmN_eq]; done) | (simp_all [faultE, prmN_eq]; omega; done) | (exfalso; simp_all; done) | (trace_state; fail))
                · intro b24
                  have c24 := b24
                  try simp only [ne_eq, beq_eq_false_iff_ne] at c24
                  refine X_seq ?_
                  refine X_seq ?_
                  refine X_rg fun R hR => ?_
                  simp only [inr_u8, Int.reduceLE, aops, astep, awant, aeff, aop, abin, aint, ev, ofValue, St.put, List.getElem?_cons_succ, List.getElem?_cons_zero, Option.getD_some, Option.map_some, if_true, List.set_cons_succ, List.set_cons_zero, and_self, b24]
                  with_reducible refine hR _ ?_
                  clear hR R
                  show X _ _ _ _
                  refine X_ite (by simp only [ev, List.getElem?_cons_succ, List.getElem?_cons_zero, Option.getD_some]; exact rfl) ?_ ?_
                  · intro b25
                    have c25 := b25
                    try simp only [beq_iff_eq] at c25
                    refine X_skip ?_
                    show X _ _ _ _
                    refine X_true (by simp only [ev, List.getElem?_cons_succ, List.getElem?_cons_zero, Option.getD_some, beq_self_eq_true, c25]) ?_
                    refine X_seq ?_
                    have hU := rfind_fn vs t.name (by omega)
                    simp only [sl] at hU
                    refine X_rg fun R hR => ?_
                    simp only [EVP, aops, astep, awant, aeff, aop, mkD, astore, ev, St.put, pcall, ia_str, List.map_cons, List.map_nil, List.getElem?_cons_succ, List.getElem?_cons_zero, Option.getD_some, Option.map_some, Option.bind_some, if_true, List.set_cons_succ, List.set_cons_zero, List.length_cons, List.length_nil, List.drop_succ_cons, List.drop_zero, List.take_succ_cons, List.take_zero, List.cons_append, List.nil_append, Nat.reduceAdd, Nat.reduceLeDiff, Nat.zero_add, Bool.false_eq_true, if_false, and_self, reduceCtorEq, beq_self_eq_true, ty_string, ty_api_Node, ty_api_VarDecl, any14, dV_cells, dV_good, c25, hU]
                    with_reducible refine hR _ ?_
                    clear hR R
                    show X _ _ _ _
                    refine X_seq ?_
                    refine X_rg fun R hR => ?_
                    simp only [aops, astep, awant, aeff, aop, ev, St.put, List.getElem?_cons_succ, List.getElem?_cons_zero, Option.getD_some, Option.map_some, if_true, List.set_cons_succ, List.set_cons_zero]
                    with_reducible refine hR _ ?_
                    clear hR R
                    show X _ _ _ _
                    refine X_ite (by simp only [ev, List.getElem?_cons_succ, List.getElem?_cons_zero, Option.getD_some]; exact rfl) ?_ ?_
                    · intro b26
                      have c26 := b26
                      try simp only [Bool.not_eq_true', Bool.not_eq_false', decide_eq_true_eq, decide_eq_false_iff_not, beq_iff_eq, Int.not_lt, Int.not_le, ge_iff_le, gt_iff_lt, bne_iff_ne, ne_eq, bne_eq_false_iff_eq, beq_eq_false_iff_ne, Bool.and_eq_true, Bool.or_eq_false_iff] at c26
                      refine X_seq ?_
                      refine X_rg fun R hR => ?_
                      simp only [inr_i64, Int.reduceLE, Int.reduceNeg, aops, astep, awant, aeff, aop, ev, ofValue, St.put, Option.getD_some, Option.map_some, if_true, List.set_cons_succ, List.set_cons_zero, and_self, b26]
                      with_reducible refine hR _ ?_
                      clear hR R
                      show X _ _ _ _
                      refine X_ret ?_
                      show resD _ _ _ = some _
                      simp only [resD, resAll, resOne, resTup, Try.results64, EVP, List.getElem?_cons_succ, List.getElem?_cons_zero, D.good, if_true, Option.map_some] <;> (first | (rfl; done) | (simp_all [faultE, freshE]; done) | (simp_all [faultE, freshE, prmN_eq]; omega; done) | (exfalso; simp_all; done) | (trace_state; fail))
                    · intro b27
                      have c27 := b27
                      try simp only [Bool.not_eq_true', Bool.not_eq_false', decide_eq_true_eq, decide_eq_false_iff_not, beq_iff_eq, Int.not_lt, Int.not_le, ge_iff_le, gt_iff_lt, bne_iff_ne, ne_eq, bne_eq_false_iff_eq, beq_eq_false_iff_ne, Bool.and_eq_true, Bool.or_eq_false_iff] at c27
                      refine X_skip ?_
                      show X _ _ _ _
                      refine X_seq ?_
                      refine X_rg fun R hR => ?_
                      simp only [inr_i64, Int.reduceLE, Int.reduceNeg, aops, astep, awant, aeff, aop, ev, ofValue, St.put, Option.getD_some, Option.map_some, if_true, List.set_cons_succ, List.set_cons_zero, and_self, b27]
                      with_reducible refine hR _ ?_
                      clear hR R
                      show X _ _ _ _
                      refine X_ret ?_
                      show resD _ _ _ = some _
                      simp only [resD, resAll, resOne, resTup, Try.results64, EVP, List.getElem?_cons_succ, List.getElem?_cons_zero, D.good, if_true, Option.map_some] <;> (first | (rfl; done) | (simp_all [faultE, freshE]; done) | (simp_all [faultE, freshE, prmN_eq]; omega; done) | (exfalso; simp_all; done) | (trace_state; fail))
                  · intro b28
                    have c28 := b28
                    try simp only [ne_eq, beq_eq_false_iff_ne] at c28
                    refine X_rg fun R hR => ?_
                    simp only [inr_u8, Int.reduceLE, aops, astep, awant, aeff, aop, abin, aint, ev, ofValue, St.put, List.getElem?_cons_succ, List.getElem?_cons_zero, Option.getD_some, Option.map_some, if_true, List.set_cons_succ, List.set_cons_zero, and_self, b28]
                    with_reducible refine hR _ ?_
                    clear hR R
                    show X _ _ _ _
                    refine X_ite (by simp only [ev, List.getElem?_cons_succ, List.getElem?_cons_zero, Option.getD_some]; exact rfl) ?_ ?_
                    · intro b29
                      have c29 := b29
                      try simp only [beq_iff_eq] at c29
                      refine X_seq ?_
                      have hU := rfind_fn vs t.name (by omega)
                      simp only [sl] at hU
                      refine X_rg fun R hR => ?_
                      simp only [EVP, aops, astep, awant, aeff, aop, mkD, astore, ev, St.put, pcall, ia_str, List.map_cons, List.map_nil, List.getElem?_cons_succ, List.getElem?_cons_zero, Option.getD_some, Option.map_some, Option.bind_some, if_true, List.set_cons_succ, List.set_cons_zero, List.length_cons, List.length_nil, List.drop_succ_cons, List.drop_zero, List.take_succ_cons, List.take_zero, List.cons_append, List.nil_append, Nat.reduceAdd, Nat.reduceLeDiff, Nat.zero_add, Bool.false_eq_true, if_false, and_self, reduceCtorEq, beq_self_eq_true, ty_string, ty_api_Node, ty_api_VarDecl, any14, dV_cells, dV_good, c29, hU]
                      with_reducible refine hR _ ?_
                      clear hR R
                      show X _ _ _ _
                      refine X_seq ?_
                      refine X_rg fun R hR => ?_
                      simp only [aops, astep, awant, aeff, aop, ev, St.put, List.getElem?_cons_succ, List.getElem?_cons_zero, Option.getD_some, Option.map_some, if_true, List.set_cons_succ, List.set_cons_zero]
                      with_reducible refine hR _ ?_
                      clear hR R
                      show X _ _ _ _
                      refine X_ite (by simp only [ev, List.getElem?_cons_succ, List.getElem?_cons_zero, Option.getD_some]; exact rfl) ?_ ?_
                      · intro b30
                        have c30 := b30
                        try simp only [Bool.not_eq_true', Bool.not_eq_false', decide_eq_true_eq, decide_eq_false_iff_not, beq_iff_eq, Int.not_lt, Int.not_le, ge_iff_le, gt_iff_lt, bne_iff_ne, ne_eq, bne_eq_false_iff_eq, beq_eq_false_iff_ne, Bool.and_eq_true, Bool.or_eq_false_iff] at c30
                        refine X_seq ?_
                        refine X_rg fun R hR => ?_
                        simp only [inr_i64, Int.reduceLE, Int.reduceNeg, aops, astep, awant, aeff, aop, ev, ofValue, St.put, Option.getD_some, Option.map_some, if_true, List.set_cons_succ, List.set_cons_zero, and_self, b30]
                        with_reducible refine hR _ ?_
                        clear hR R
                        show X _ _ _ _
                        refine X_ret ?_
                        show resD _ _ _ = some _
                        simp only [resD, resAll, resOne, resTup, Try.results64, EVP, List.getElem?_cons_succ, List.getElem?_cons_zero, D.good, if_true, Option.map_some] <;> (first | (rfl; done) | (simp_all [faultE, freshE]; done) | (simp_all [faultE, freshE, prmN_eq]; omega; done) | (exfalso; simp_all; done) | (trace_state; fail))
                      · intro b31
                        have c31 := b31
                        try simp only [Bool.not_eq_true', Bool.not_eq_false', decide_eq_true_eq, decide_eq_false_iff_not, beq_iff_eq, Int.not_lt, Int.not_le, ge_iff_le, gt_iff_lt, bne_iff_ne, ne_eq, bne_eq_false_iff_eq, beq_eq_false_iff_ne, Bool.and_eq_true, Bool.or_eq_false_iff] at c31
                        refine X_skip ?_
                        show X _ _ _ _
                        refine X_seq ?_
                        refine X_rg fun R hR => ?_
                        simp only [inr_i64, Int.reduceLE, Int.reduceNeg, aops, astep, awant, aeff, aop, ev, ofValue, St.put, Option.getD_some, Option.map_some, if_true, List.set_cons_succ, List.set_cons_zero, and_self, b31]
                        with_reducible refine hR _ ?_
                        clear hR R
                        show X _ _ _ _
                        refine X_ret ?_
                        show resD _ _ _ = some _
                        simp only [resD, resAll, resOne, resTup, Try.results64, EVP, List.getElem?_cons_succ, List.getElem?_cons_zero, D.good, if_true, Option.map_some] <;> (first | (rfl; done) | (simp_all [faultE, freshE]; done) | (simp_all [faultE, freshE, prmN_eq]; omega; done) | (exfalso; simp_all; done) | (trace_state; fail))
                    · intro b32
                      have c32 := b32
                      try simp only [ne_eq, beq_eq_false_iff_ne] at c32
                      refine X_skip ?_
                      show X _ _ _ _
                      refine X_seq ?_
                      refine X_rg fun R hR => ?_
                      simp only [inr_i64, Int.reduceLE, Int.reduceNeg, aops, astep, awant, aeff, aop, ev, ofValue, St.put, Option.getD_some, Option.map_some, if_true, List.set_cons_succ, List.set_cons_zero, and_self, b32]
                      with_reducible refine hR _ ?_
                      clear hR R
                      show X _ _ _ _
                      refine X_ret ?_
                      show resD _ _ _ = some _
                      simp only [resD, resAll, resOne, resTup, Try.results64, EVP, List.getElem?_cons_succ, List.getElem?_cons_zero, D.good, if_true, Option.map_some] <;> (first | (rfl; done) | (simp_all [faultE]; done) | (simp_all [faultE, freshE, prmN_eq]; omega; done) | (exfalso; simp_all; done) | (trace_state; fail))
set_option maxRecDepth 100000 in
set_option maxHeartbeats 4000000 in
theorem rarg_fn (p : Pg) (t : Tr) (i : Nat) (vs : List Vd) (hi : i < t.kids.length) (hl : vs.length ≤ 1000000) (hp : p.procs.length ≤ 1000000) : fn EV 65 [dG p, sl 3 (vs.map dV), dN t, .int .i64 i] = some (.int .i64 (argE p t i vs)) := by
  refine fn_X rfl Try.func65 rfl (by simp only [plain, List.all_cons, List.all_nil, sl_pl (f := dV) (fun _ _ => rfl), int_pl, dN_pl, dG_pl, Bool.and_true]) (rfl) (rfl) (rfl) ?_
  simp only [List.map_cons, List.map_nil, D.strip, sl_strip (map_strip (f := dV) (fun _ => rfl) _), dN_strip, dG_strip]
  simp only [enterSt, Try.ntmps65, List.length_cons, List.length_nil, Nat.reduceAdd, Nat.reduceSub, List.replicate_succ, List.replicate_zero, List.cons_append, List.nil_append]
  refine X_seq ?_
  refine X_rg fun R hR => ?_
  simp only [inr_i64, Int.reduceLE, Int.reduceNeg, aops, astep, awant, aeff, aop, ev, ofValue, St.put, List.getElem?_cons_succ, List.getElem?_cons_zero, Option.getD_some, Option.map_some, if_true, List.set_cons_succ, List.set_cons_zero, List.length_cons, List.length_nil, List.cons_append, List.nil_append, Nat.zero_add, and_self, dN_cells, dN_good, sl, dG_cells, dG_good]
  with_reducible refine hR _ ?_
  clear hR R
  show X _ _ _ _
  refine X_seq ?_
  have hF := rfind_fn vs t.kids[i].name (by omega)
  simp only [sl] at hF
  have hk1 : ((if (t.kids.map dN).isEmpty = true then 0 else 4) = 4) = True := eq_true (sl_n (j := i) (by simpa using hi))
  have ek : (t.kids.map dN)[i]? = some (.agg [.int .u8 t.kids[i].kind, .int .i64 t.kids[i].num, .str t.kids[i].name, sl 4 (t.kids[i].kids.map dN)]) := by rw [show D.agg _ = dN t.kids[i] from (dN_eq _).symm]; simp [hi]
  refine X_rg fun R hR => ?_
  simp only [EVP, nat_lt, nat_0, nat_to, aops, astep, awant, aeff, aop, mkD, astore, ev, St.put, pcall, ia_str, cl_str, ia_slice, List.map_cons, List.map_nil, List.getElem?_cons_succ, List.getElem?_cons_zero, Option.getD_some, Option.map_some, Option.bind_some, if_true, List.set_cons_succ, List.set_cons_zero, List.length_map, List.length_cons, List.length_nil, List.drop_succ_cons, List.drop_zero, List.take_succ_cons, List.take_zero, List.cons_append, List.nil_append, Nat.reduceAdd, Nat.reduceLeDiff, Nat.zero_add, Bool.false_eq_true, if_false, and_self, reduceCtorEq, Option.isSome_some, ty_string, ty_s_api_Node, ty_api_Node, ty_api_VarDecl, und_api_Node, siz_api_Node, inf_api_Node_eq, any14, sl, dV_cells, dV_good, hF, hk1, ek, hi]
  with_reducible refine hR _ ?_
  clear hR R
  show X _ _ _ _
  refine X_seq ?_
  refine X_seq ?_
  refine X_rg fun R hR => ?_
  simp only [aops, astep, awant, aeff, aop, ev, St.put, List.getElem?_cons_succ, List.getElem?_cons_zero, Option.getD_some, Option.map_some, if_true, List.set_cons_succ, List.set_cons_zero]
  with_reducible refine hR _ ?_
  clear hR R
  show X _ _ _ _
  refine X_ite (by simp only [ev, List.getElem?_cons_succ, List.getElem?_cons_zero, Option.getD_some]; exact rfl) ?_ ?_
  · intro b1
    have c1 := b1
    try simp only [Bool.not_eq_true'] at c1
    refine X_seq ?_
    refine X_rg fun R hR => ?_
    simp only [inr_i64, Int.reduceLE, Int.reduceNeg, aops, astep, awant, aeff, aop, ev, ofValue, St.put, Option.getD_some, Option.map_some, if_true, List.set_cons_succ, List.set_cons_zero, Bool.not_false, and_self, c1]
    with_reducible refine hR _ ?_
    clear hR R
    show X _ _ _ _
    refine X_ret ?_
    show resD _ _ _ = some _
    simp only [resD, resAll, resOne, resTup, Try.results65, EVP, List.getElem?_cons_succ, List.getElem?_cons_zero, D.good, if_true, Option.map_some] <;> (first | (rfl; done) | (simp_all [argE]; done) | ((have h1 := @eq_comm Int (findN vs t.kids[i].name vs.length).1.kind; have h2 := @eq_comm Int (findN vs t.kids[i].name vs.length).1.len; simp_all [argE, prmN_eq]); done) | (simp_all [argE, prmN_eq]; omega; done) | (exfalso; simp_all; done) | (trace_state; fail))
  · intro b2
    have c2 := b2
    try simp only [Bool.not_eq_false'] at c2
    refine X_skip ?_
    show X _ _ _ _
    refine X_seq ?_
    have hP := rproc_fn p t.name (by omega)
    have hP2 : idxN p.procs t.name 0 p.procs.length = procI p t.name := rfl
    rw [hP2] at hP
    refine X_rg fun R hR => ?_
    simp only [EVP, aops, astep, awant, aeff, aop, mkD, ev, St.put, pcall, ia_str, List.map_cons, List.map_nil, List.getElem?_cons_succ, List.getElem?_cons_zero, Option.getD_some, Option.map_some, if_true, List.set_cons_succ, List.set_cons_zero, List.length_cons, List.length_nil, List.drop_succ_cons, List.drop_zero, List.take_succ_cons, List.take_zero, List.cons_append, List.nil_append, Nat.reduceAdd, Nat.reduceLeDiff, Nat.zero_add, Bool.not_true, Bool.false_eq_true, if_false, reduceCtorEq, ty_string, ty_api_Node, ty_api_Program, any16, dG_agg, c2, hP]
    with_reducible refine hR _ ?_
    clear hR R
    show X _ _ _ _
    refine X_seq ?_
    refine X_seq ?_
    have pq2 : 0 ≤ procI p t.name → _ := fun h => pq_2 (p := p) (s := t.name) h
    refine X_y ?_
    refine Y_k 3 fun R hR => ?_
    simp only [EVP, inr_i64, Int.reduceLE, Int.reduceNeg, aops, astep, awant, aeff, aop, abin, aint, ev, ofValue, St.put, List.getElem?_cons_succ, List.getElem?_cons_zero, Option.getD_some, Option.map_some, if_true, List.set_cons_succ, List.set_cons_zero, List.take_succ_cons, List.take_zero, and_self]
    with_reducible refine hR _ ?_
    clear hR R
    simp only [List.drop_succ_cons, List.drop_zero]
    refine Y_if 32 (by simp only [ev, List.getElem?_cons_succ, List.getElem?_cons_zero, Option.getD_some]; exact rfl) ?_ ?_
    · intro b3
      have c3 := b3
      try simp only [decide_eq_true_eq] at c3
      refine Y_end fun R hR => ?_
      simp only [EVP, aops, astep, awant, aeff, aop, abin, ev, ofValue, St.put, List.getElem?_cons_succ, List.getElem?_cons_zero, Option.getD_some, Option.map_some, Option.map_none, Option.bind_some, if_true, List.set_cons_succ, List.set_cons_zero, Nat.zero_add, Bool.false_eq_true, if_false, reduceCtorEq, decide_true, bq_tf, ty_s_api_Node, ty_s_api_VarDecl, ty_s_api_Proc, ty_api_Node, ty_api_Proc, ty_api_Program, und_api_Node, und_api_VarDecl, und_api_Proc, c3]
      with_reducible refine hR _ ?_
      clear hR R
      show X _ _ _ _
      refine X_true (by simp only [ev, List.getElem?_cons_succ, List.getElem?_cons_zero, Option.getD_some]) ?_
      refine X_seq ?_
      refine X_rg fun R hR => ?_
      simp only [inr_i64, Int.reduceLE, Int.reduceNeg, aops, astep, awant, aeff, aop, ev, ofValue, St.put, Option.getD_some, Option.map_some, if_true, List.set_cons_succ, List.set_cons_zero, and_self]
      with_reducible refine hR _ ?_
      clear hR R
      show X _ _ _ _
      refine X_ret ?_
      show resD _ _ _ = some _
      simp only [resD, resAll, resOne, resTup, Try.results65, EVP, List.getElem?_cons_succ, List.getElem?_cons_zero, D.good, if_true, Option.map_some] <;> (first | (rfl; done) | (simp_all [argE]; done) | ((have h1 := @eq_comm Int (findN vs t.kids[i].name vs.length).1.kind; have h2 := @eq_comm Int (findN vs t.kids[i].name vs.length).1.len; simp_all [argE, prmN_eq]); done) | (simp_all [argE, prmN_eq]; omega; done) | (exfalso; simp_all; done) | (trace_state; fail))
    · intro b4
      have c4 := b4
      try simp only [decide_eq_false_iff_not, Int.not_lt] at c4
      refine Y_end fun R hR => ?_
      simp only [EVP, aops, astep, awant, aeff, aop, abin, aint, mkD, ev, ofValue, St.put, ia_slice, cl_slice, List.getElem?_cons_succ, List.getElem?_cons_zero, Option.getD_some, Option.map_some, Option.bind_some, if_true, List.set_cons_succ, List.set_cons_zero, List.length_map, List.length_cons, List.length_nil, List.drop_succ_cons, List.drop_zero, List.take_succ_cons, List.take_zero, Nat.reduceAdd, Nat.reduceLeDiff, Nat.zero_add, Bool.false_eq_true, if_false, and_self, reduceCtorEq, beq_self_eq_true, Option.isSome_some, ty_s_api_Node, ty_s_api_VarDecl, ty_s_api_Proc, ty_api_Node, ty_api_Proc, ty_api_Program, und_api_Node, und_api_VarDecl, und_api_Proc, siz_api_Proc, inf_api_Proc_eq, sl, dP, b4, c4, pq_1, pq2, pq_3]
      with_reducible refine hR _ ?_
      clear hR R
      show X _ _ _ _
      refine X_ite (by simp only [ev, List.getElem?_cons_succ, List.getElem?_cons_zero, Option.getD_some]; exact rfl) ?_ ?_
      · intro b5
        have c5 := b5
        try simp only [bne_iff_ne, ne_eq] at c5
        refine X_seq ?_
        refine X_rg fun R hR => ?_
        simp only [inr_i64, Int.reduceLE, Int.reduceNeg, aops, astep, awant, aeff, aop, ev, ofValue, St.put, Option.getD_some, Option.map_some, if_true, List.set_cons_succ, List.set_cons_zero, and_self, b5]
        with_reducible refine hR _ ?_
        clear hR R
        show X _ _ _ _
        refine X_ret ?_
        show resD _ _ _ = some _
        simp only [resD, resAll, resOne, resTup, Try.results65, EVP, List.getElem?_cons_succ, List.getElem?_cons_zero, D.good, if_true, Option.map_some] <;> (first | (rfl; done) | (simp_all [argE, prmN_eq]; done) | ((have h1 := @eq_comm Int (findN vs t.kids[i].name vs.length).1.kind; have h2 := @eq_comm Int (findN vs t.kids[i].name vs.length).1.len; simp_all [argE, prmN_eq]); done) | (simp_all [argE, prmN_eq]; omega; done) | (exfalso; simp_all; done) | (trace_state; fail))
      · intro b6
        have c6 := b6
        try simp only [bne_eq_false_iff_eq] at c6
        refine X_skip ?_
        show X _ _ _ _
        refine X_seq ?_
        refine X_seq ?_
        have hi2 : i < (prQ p t.name).params.length := by first | omega | (simp_all; omega)
        have hn2 : ((if ((prQ p t.name).params.map dV).isEmpty = true then 0 else 3) = 3) = True := eq_true (sl_n (j := i) (by simpa using hi2))
        have e2 : ((prQ p t.name).params.map dV)[i]? = some (dV (prQ p t.name).params[i]) := by simp [hi2]
        refine X_rg fun R hR => ?_
        simp only [EVP, nat_lt, nat_0, nat_to, aops, astep, awant, aeff, aop, mkD, astore, ev, St.put, ia_slice, cl_slice, List.getElem?_cons_succ, List.getElem?_cons_zero, Option.getD_some, Option.map_some, Option.bind_some, if_true, List.set_cons_succ, List.set_cons_zero, List.length_map, List.length_cons, List.length_nil, List.drop_succ_cons, List.drop_zero, List.take_succ_cons, List.take_zero, List.cons_append, List.nil_append, Nat.reduceAdd, Nat.reduceLeDiff, Nat.zero_add, Bool.false_eq_true, if_false, and_self, reduceCtorEq, bne_self_eq_false, Option.isSome_some, ty_s_api_VarDecl, ty_s_api_Proc, ty_api_VarDecl, ty_api_Proc, ty_api_Program, und_api_VarDecl, siz_api_VarDecl, inf_api_VarDecl_eq, und_api_Proc, siz_api_Proc, inf_api_Proc_eq, sl, dP, dV_cells, dV_good, dV_isAgg, c4, c6, pq_1, pq2, pq_3, hi, hn2, e2]
        with_reducible refine hR _ ?_
        clear hR R
        show X _ _ _ _
        refine X_seq ?_
        refine X_y ?_
        refine Y_k 6 fun R hR => ?_
        simp only [EVP, aops, astep, awant, aeff, aop, abin, aint, mkD, ev, St.put, ia_int, List.getElem?_cons_succ, List.getElem?_cons_zero, Option.getD_some, Option.map_some, if_true, List.set_cons_succ, List.set_cons_zero, List.length_cons, List.length_nil, List.drop_succ_cons, List.drop_zero, List.take_succ_cons, List.take_zero, Nat.reduceAdd, Nat.reduceLeDiff, Nat.zero_add, Bool.false_eq_true, if_false, reduceCtorEq, ty_uint8, ty_api_VarDecl]
        with_reducible refine hR _ ?_
        clear hR R
        simp only [List.drop_succ_cons, List.drop_zero]
        refine Y_if 59 (by simp only [ev, List.getElem?_cons_succ, List.getElem?_cons_zero, Option.getD_some]; exact rfl) ?_ ?_
        · intro b7
          have c7 := b7
          try simp only [bne_iff_ne, ne_eq] at c7
          refine Y_end fun R hR => ?_
          simp only [EVP, aops, astep, awant, aeff, aop, abin, ev, ofValue, St.put, List.getElem?_cons_succ, List.getElem?_cons_zero, Option.getD_some, Option.map_some, Option.map_none, Option.bind_some, if_true, List.set_cons_succ, List.set_cons_zero, Nat.zero_add, Bool.false_eq_true, if_false, reduceCtorEq, bq_tf, ty_int, ty_api_VarDecl, b7]
          with_reducible refine hR _ ?_
          clear hR R
          show X _ _ _ _
          refine X_true (by simp only [ev, List.getElem?_cons_succ, List.getElem?_cons_zero, Option.getD_some]) ?_
          refine X_seq ?_
          refine X_rg fun R hR => ?_
          simp only [inr_i64, Int.reduceLE, Int.reduceNeg, aops, astep, awant, aeff, aop, ev, ofValue, St.put, Option.getD_some, Option.map_some, if_true, List.set_cons_succ, List.set_cons_zero, and_self]
          with_reducible refine hR _ ?_
          clear hR R
          show X _ _ _ _
          refine X_ret ?_
          show resD _ _ _ = some _
          simp only [resD, resAll, resOne, resTup, Try.results65, EVP, List.getElem?_cons_succ, List.getElem?_cons_zero, D.good, if_true, Option.map_some] <;> (first | (rfl; done) | (simp_all [argE, prmN_eq]; done) | ((have h1 := @eq_comm Int (findN vs t.kids[i].name vs.length).1.kind; have h2 := @eq_comm Int (findN vs t.kids[i].name vs.length).1.len; simp_all [argE, prmN_eq]); done) | (simp_all [argE, prmN_eq]; omega; done) | (exfalso; simp_all; done) | (trace_state; fail))
        · intro b8
          have c8 := b8
          try simp only [bne_eq_false_iff_eq] at c8
          refine Y_end fun R hR => ?_
          simp only [EVP, aops, astep, awant, aeff, aop, abin, aint, mkD, ev, ofValue, St.put, ia_int, List.getElem?_cons_succ, List.getElem?_cons_zero, Option.getD_some, Option.map_some, Option.bind_some, if_true, List.set_cons_succ, List.set_cons_zero, List.length_cons, List.length_nil, List.drop_succ_cons, List.drop_zero, List.take_succ_cons, List.take_zero, Nat.reduceAdd, Nat.reduceLeDiff, Nat.zero_add, Bool.false_eq_true, if_false, reduceCtorEq, beq_self_eq_true, bne_self_eq_false, ty_int, ty_api_VarDecl, c8]
          with_reducible refine hR _ ?_
          clear hR R
          show X _ _ _ _
          refine X_ite (by simp only [ev, List.getElem?_cons_succ, List.getElem?_cons_zero, Option.getD_some]; exact rfl) ?_ ?_
          · intro b9
            have c9 := b9
            try simp only [bne_iff_ne, ne_eq] at c9
            refine X_seq ?_
            refine X_rg fun R hR => ?_
            simp only [inr_i64, Int.reduceLE, Int.reduceNeg, aops, astep, awant, aeff, aop, ev, ofValue, St.put, Option.getD_some, Option.map_some, if_true, List.set_cons_succ, List.set_cons_zero, and_self, b9]
            with_reducible refine hR _ ?_
            clear hR R
            show X _ _ _ _
            refine X_ret ?_
            show resD _ _ _ = some _
            simp only [resD, resAll, resOne, resTup, Try.results65, EVP, List.getElem?_cons_succ, List.getElem?_cons_zero, D.good, if_true, Option.map_some] <;> (first | (rfl; done) | (simp_all [argE, prmN_eq]; done) | ((have h1 := @eq_comm Int (findN vs t.kids[i].name vs.length).1.kind; have h2 := @eq_comm Int (findN vs t.kids[i].name vs.length).1.len; simp_all [argE, prmN_eq]); done) | (simp_all [argE, prmN_eq]; omega; done) | (exfalso; simp_all; done) | (trace_state; fail))
          · intro b10
            have c10 := b10
            try simp only [bne_eq_false_iff_eq] at c10
            refine X_skip ?_
            show X _ _ _ _
            refine X_seq ?_
            refine X_rg fun R hR => ?_
            simp only [inr_i64, Int.reduceLE, Int.reduceNeg, aops, astep, awant, aeff, aop, ev, ofValue, St.put, Option.getD_some, Option.map_some, if_true, List.set_cons_succ, List.set_cons_zero, and_self, bne_self_eq_false, c10]
            with_reducible refine hR _ ?_
            clear hR R
            show X _ _ _ _
            refine X_ret ?_
            show resD _ _ _ = some _
            simp only [resD, resAll, resOne, resTup, Try.results65, EVP, List.getElem?_cons_succ, List.getElem?_cons_zero, D.good, if_true, Option.map_some] <;> (first | (rfl; done) | (simp_all [argE, prmN_eq]; done) | ((have h1 := @eq_comm Int (findN vs t.kids[i].name vs.length).1.kind; have h2 := @eq_comm Int (findN vs t.kids[i].name vs.length).1.len; simp_all [argE, prmN_eq]); done) | (simp_all [argE, prmN_eq]; omega; done) | (exfalso; simp_all; done) | (trace_state; fail))
theorem rep_y {pr : Int} {path : List Int} {err : Int} {name : ByteArray} (h : ¬ err = 0) : rep pr path err name = [⟨pr, path, err, name⟩] := by unfold rep; rw [if_neg h]
theorem rep_n {pr : Int} {path : List Int} {err : Int} {name : ByteArray} (h : err = 0) : rep pr path err name = [] := by unfold rep; rw [if_pos h]
theorem dV_app (vs : List Vd) (v : Vd) : vs.map dV ++ [dV v] = (vs ++ [v]).map dV := by simp
theorem dFt_app (L : List Ft) (f : Ft) : L.map dFt ++ [dFt f] = (L ++ [f]).map dFt := by simp
theorem slV_own (o : Own) (ho : o.st = .imm) (vs : List Vd) (hne : vs ≠ []) (x y z w : D) (hx : plain [x, y, z, w] = true) (k : Nat) : fn EV k [x, .slice o 3 (vs.map dV), y, z, w] = fn EV k [x, sl 3 (vs.map dV), y, z, w] := by
  have h0 : ∀ o n, D.under 0 (.slice o n (vs.map dV)) = true := fun o n => by simp only [D.under, unders_id (f := dV) (fun _ _ => rfl)]
  have hg : ∀ o n, D.good (.slice o n (vs.map dV)) = true := fun o n => rfl
  simp only [plain, List.all_cons, List.all_nil, Bool.and_true, Bool.and_eq_true] at hx
  refine fn_strip ?_ ?_ ?_
  · simp only [plain, List.all_cons, List.all_nil, h0, hg, hx, Bool.and_self]
  · simp only [sl, plain, List.all_cons, List.all_nil, h0, hg, hx, Bool.and_self]
  · simp only [List.map_cons, List.map_nil, sl_own (f := dV) (fun _ => rfl) hne o ho, sl_strip (map_strip (f := dV) (fun _ => rfl) _)]
set_option maxRecDepth 100000 in
set_option maxHeartbeats 4000000 in
theorem node_fn (p : Pg) (pr : Int) (hp : p.procs.length ≤ 1000000) : ∀ (N : Nat) (t : Tr), t.size ≤ N → ∀ (vs : List Vd) (path : List Int), path.length + t.size ≤ 1000000 → vs.length + t.size ≤ 1000000 → fn EV 51 [dG p, sl 3 (vs.map dV), .int .i64 pr, sl 1 (path.map dI), dN t] = some (sl 4 ((visF p pr t path vs).map dFt)) := by
  intro N
  induction N with
  | zero => intro t h; cases t; simp only [Tr.size] at h; omega
  | succ N IH =>
  intro t hN vs path hpl hvl
  have ih := fun (c : Tr) (hc : c.size < t.size) => IH c (by omega)
  clear IH
  refine fn_Xs rfl Try.func51 rfl (by simp only [plain, List.all_cons, List.all_nil, sl_pl (f := dV) (fun _ _ => rfl), sl_pl (f := dI) (fun _ _ => rfl), int_pl, dN_pl, dG_pl, Bool.and_true]) rfl ?_
  simp only [List.map_cons, List.map_nil, D.strip, sl_strip (map_strip (f := dV) (fun _ => rfl) _), sl_strip (map_strip (f := dI) (fun _ => rfl) _), dN_strip, dG_strip]
  simp only [enterSt, Try.ntmps51, List.length_cons, List.length_nil, Nat.reduceAdd, Nat.reduceSub, List.replicate_succ, List.replicate_zero, List.cons_append, List.nil_append]
  refine X_seq ?_
  refine X_rg fun R hR => ?_
  simp only [aops, astep, awant, aeff, aop, ev, ofValue, St.put, List.getElem?_cons_succ, List.getElem?_cons_zero, Option.getD_some, Option.map_some, if_true, List.set_cons_succ, List.set_cons_zero, List.length_cons, List.length_nil, List.cons_append, List.nil_append, Nat.zero_add, dN_cells, dN_good, sl, dG_cells, dG_good]
  with_reducible refine hR _ ?_
  clear hR R
  show X _ _ _ _
  refine X_seq ?_
  refine X_rg fun R hR => ?_
  simp only [aops, astep, awant, aeff, aop, ev, ofValue, St.put, Option.getD_some, Option.map_some, if_true, List.set_cons_succ, List.set_cons_zero]
  with_reducible refine hR _ ?_
  clear hR R
  show X _ _ _ _
  refine X_seq ?_
  refine X_seq ?_
  have how := own_fn p t vs (by omega) hp
  simp only [sl] at how
  refine X_rg fun R hR => ?_
  simp only [EVP, aops, astep, awant, aeff, aop, mkD, ev, St.put, pcall, List.map_cons, List.map_nil, List.getElem?_cons_succ, List.getElem?_cons_zero, Option.getD_some, Option.map_some, if_true, List.set_cons_succ, List.set_cons_zero, List.length_cons, List.length_nil, List.drop_zero, List.take_succ_cons, List.take_zero, List.cons_append, List.nil_append, Nat.reduceAdd, Nat.reduceLeDiff, Nat.zero_add, ty_api_Node, ty_api_Program, any64, dN_agg, dG_agg, how]
  with_reducible refine hR _ ?_
  clear hR R
  show X _ _ _ _
  refine X_seq ?_
  refine X_rg fun R hR => ?_
  simp only [inr_i64, Int.reduceLE, Int.reduceNeg, aops, astep, awant, aeff, aop, abin, aint, ev, ofValue, St.put, List.getElem?_cons_succ, List.getElem?_cons_zero, Option.getD_some, Option.map_some, if_true, List.set_cons_succ, List.set_cons_zero, and_self]
  with_reducible refine hR _ ?_
  clear hR R
  show X _ _ _ _
  refine X_ite (by simp only [ev, List.getElem?_cons_succ, List.getElem?_cons_zero, Option.getD_some]; exact rfl) ?_ ?_
  · intro b1
    have c1 := b1
    try simp only [bne_iff_ne, ne_eq] at c1
    obtain ⟨lv1, hacc, hap⟩ := (AccB.nil 81 4 0 []).app1 (P := Try.prog) (t := 44) und_backstepref06_Fault inf_backstepref06_Fault_eq inf_backstepref06_Fault_size (by omega) (by rw [inf_backstepref06_Fault_bytes]; omega) inf_backstepref06_Fault_zc (dFt ⟨pr, path, faultE p t vs, t.name⟩) (by simp)
    simp only [List.nil_append, Nat.zero_add] at hap hacc
    refine X_rg fun R hR => ?_
    simp only [EVP, aops, astep, awant, aeff, aop, mkD, afill, abuild, ev, ofValue, St.put, gd_int, cl_int, gd_str, ia_str, cl_str, gd_slice, cl_slice, List.map_cons, List.map_nil, List.getElem?_cons_succ, List.getElem?_cons_zero, Option.getD_some, Option.map_some, if_true, List.set_cons_succ, List.set_cons_zero, List.length_cons, List.length_nil, List.drop_succ_cons, List.drop_zero, List.take_succ_cons, List.take_zero, List.cons_append, List.nil_append, Nat.reduceAdd, Nat.reduceLeDiff, Nat.reduceLT, Nat.zero_add, Bool.and_true, Bool.false_eq_true, if_false, and_self, reduceCtorEq, List.all_cons, List.all_nil, beq_self_eq_true, Nat.reduceMul, rng_1, ty_string, ty_api_Node, ty_backstepref06_Fault, st_backstepref06_Fault, sta_backstepref06_Fault, und_backstepref06_Fault, inf_backstepref06_Fault_eq, inf_backstepref06_Fault_size, inf_backstepref06_Fault_zero, dFt_agg, dFt_good, dFt_cells, b1, hap]
    with_reducible refine hR _ ?_
    clear hR R
    show X _ _ _ _
    refine X_seq ?_
    refine X_seq ?_
    refine X_rg fun R hR => ?_
    simp only [inr_i64, Int.reduceLE, Int.reduceNeg, aops, astep, awant, aeff, aop, ev, ofValue, St.put, Option.getD_some, Option.map_some, if_true, List.set_cons_succ, List.set_cons_zero, and_self]
    with_reducible refine hR _ ?_
    clear hR R
    show X _ _ _ _
    refine X_block ?_
    refine X_loop (fun m σ => ∃ (i : Nat) (o : Own) (n : Nat) (L : List Ft) (M : List D) (r : List (List D)) (nx : Nat) (lv : List Nat), σ = ⟨[slotOf σ 0, .slice .imm (if (vs.map dV).isEmpty = true then 0 else 3) (vs.map dV), .int .i64 pr, .slice .imm (if (path.map dI).isEmpty = true then 0 else 1) (path.map dI), slotOf σ 4, .ptr 0 0, slotOf σ 6, slotOf σ 7, slotOf σ 8, .ptr 1 0, slotOf σ 10, .slice o n M, slotOf σ 12, .int .i64 i, slotOf σ 14, slotOf σ 15, slotOf σ 16, slotOf σ 17, slotOf σ 18, slotOf σ 19, slotOf σ 20, slotOf σ 21, slotOf σ 22, slotOf σ 23, slotOf σ 24, slotOf σ 25, slotOf σ 26, slotOf σ 27, slotOf σ 28, slotOf σ 29, slotOf σ 30, slotOf σ 31, slotOf σ 32, slotOf σ 33, slotOf σ 34, slotOf σ 35, slotOf σ 36, slotOf σ 37, slotOf σ 38, slotOf σ 39, slotOf σ 40, slotOf σ 41, slotOf σ 42, slotOf σ 43, slotOf σ 44, slotOf σ 45, slotOf σ 46, slotOf σ 47, slotOf σ 48, slotOf σ 49, slotOf σ 50, slotOf σ 51, slotOf σ 52, slotOf σ 53, slotOf σ 54, slotOf σ 55, slotOf σ 56, slotOf σ 57, slotOf σ 58, slotOf σ 59, slotOf σ 60, slotOf σ 61, slotOf σ 62, slotOf σ 63, slotOf σ 64, slotOf σ 65, slotOf σ 66, slotOf σ 67, slotOf σ 68, slotOf σ 69, slotOf σ 70, slotOf σ 71, slotOf σ 72, slotOf σ 73, slotOf σ 74, slotOf σ 75, slotOf σ 76, slotOf σ 77, slotOf σ 78, slotOf σ 79, slotOf σ 80, slotOf σ 81, slotOf σ 82, slotOf σ 83, slotOf σ 84, slotOf σ 85, slotOf σ 86, slotOf σ 87, slotOf σ 88, slotOf σ 89, slotOf σ 90, slotOf σ 91, slotOf σ 92, slotOf σ 93, slotOf σ 94, slotOf σ 95, slotOf σ 96, slotOf σ 97, slotOf σ 98, slotOf σ 99, slotOf σ 100, slotOf σ 101, slotOf σ 102, slotOf σ 103], [.slice .imm (if (p.vars.map dV).isEmpty = true then 0 else 3) (p.vars.map dV), .slice .imm (if (p.procs.map dP).isEmpty = true then 0 else 6) (p.procs.map dP), .int .u8 p.main.kind, .int .i64 p.main.num, .str p.main.name, .slice .imm (if (p.main.kids.map dN).isEmpty = true then 0 else 4) (p.main.kids.map dN)] :: [.int .u8 t.kind, .int .i64 t.num, .str t.name, .slice .imm (if (t.kids.map dN).isEmpty = true then 0 else 4) (t.kids.map dN)] :: r, nx, lv⟩ ∧ m = t.kids.length - i ∧ i ≤ t.kids.length ∧ Hid (AccB 81 4 o n M nx lv) ∧ Hid (M = L.map dFt) ∧ Hid (L ++ (if t.kind = 50 ∨ t.kind = 51 then argsF p pr t path vs (t.kids.drop i) i else visL p pr t path vs (t.kids.drop i) i) = visF p pr t path vs) ∧ L.length + Tr.sizes (t.kids.drop i) ≤ t.size) ?_ (t.kids.length) _ ?_
    rotate_left
    · exact ⟨0, _, _, [⟨pr, path, faultE p t vs, t.name⟩], _, [], _, _, rfl, rfl, Nat.zero_le _, Lib.hid hacc, Lib.hid rfl, Lib.hid (by rw [visF_eq, rep_y c1, List.drop_zero]), by have := size_kids t; simp only [List.length_cons, List.length_nil, List.drop_zero]; omega⟩
    rintro m σ ⟨i, o, n, L, M, r, nx, lv, hσ, rfl, hi, ha, hM, hL, hs⟩
    generalize slotOf σ = x at hσ
    subst hσ
    have hn4 : ∀ j, j < t.kids.length → ((if (t.kids.map dN).isEmpty = true then 0 else 4) = 4) = True := fun j h => eq_true (sl_n (j := j) (by simpa using h))
    have hml : M.length = L.length := by rw [hM.out]; simp
    refine X_seq ?_
    refine X_seq ?_
    refine X_rg fun R hR => ?_
    simp only [EVP, nat_lt, aops, astep, awant, aeff, aop, abin, aint, mkD, ev, St.put, ia_slice, List.getElem?_cons_succ, List.getElem?_cons_zero, Option.getD_some, Option.map_some, if_true, List.set_cons_succ, List.set_cons_zero, List.length_map, List.length_cons, List.length_nil, List.drop_succ_cons, List.drop_zero, List.take_succ_cons, List.take_zero, Nat.reduceAdd, Nat.reduceLeDiff, Nat.zero_add, Bool.false_eq_true, if_false, reduceCtorEq, ty_s_api_Node, ty_api_Node, und_api_Node]
    with_reducible refine hR _ ?_
    clear hR R
    show X _ _ _ _
    refine X_ite (by simp only [ev, List.getElem?_cons_succ, List.getElem?_cons_zero, Option.getD_some]; exact rfl) ?_ ?_
    · intro b2
      have c2 := b2
      try simp only [decide_eq_true_eq] at c2
      refine X_skip ?_
      show X _ _ _ _
      refine X_seq ?_
      refine X_block ?_
      refine X_seq ?_
      refine X_seq ?_
      have hlt : i < t.kids.length := by first | assumption | omega
      have hn1 := hn4 i hlt
      have hsd := sizes_drop t.kids i hlt
      have hsp := size_ge1 t.kids[i]
      refine X_y ?_
      refine Y_k 4 fun R hR => ?_
      simp only [EVP, inr_u8, Int.reduceLE, aops, astep, awant, aeff, aop, abin, aint, mkD, ev, ofValue, St.put, ia_int, List.getElem?_cons_succ, List.getElem?_cons_zero, Option.getD_some, Option.map_some, if_true, List.set_cons_succ, List.set_cons_zero, List.length_cons, List.length_nil, List.drop_zero, List.take_succ_cons, List.take_zero, Nat.reduceAdd, Nat.reduceLeDiff, Nat.zero_add, Nat.add_zero, Bool.false_eq_true, if_false, and_self, reduceCtorEq, decide_true, ty_uint8, ty_api_Node, hlt]
      with_reducible refine hR _ ?_
      clear hR R
      simp only [List.drop_succ_cons, List.drop_zero]
      refine Y_if 43 (by simp only [ev, List.getElem?_cons_succ, List.getElem?_cons_zero, Option.getD_some]; exact rfl) ?_ ?_
      · intro b3
        have c3 := b3
        try simp only [beq_iff_eq] at c3
        refine Y_end fun R hR => ?_
        simp only [EVP, inr_u8, Int.reduceLE, aops, astep, awant, aeff, aop, abin, ev, ofValue, St.put, List.getElem?_cons_succ, List.getElem?_cons_zero, Option.getD_some, Option.map_some, Option.map_none, Option.bind_some, if_true, List.set_cons_succ, List.set_cons_zero, Nat.add_zero, Bool.false_eq_true, if_false, and_self, reduceCtorEq, bq_tf, ty_uint8, ty_api_Node, b3]
        with_reducible refine hR _ ?_
        clear hR R
        show X _ _ _ _
        refine X_true (by simp only [ev, List.getElem?_cons_succ, List.getElem?_cons_zero, Option.getD_some]) ?_
        refine X_seq ?_
        refine X_seq ?_
        have har := rarg_fn p t i vs hlt (by omega) hp
        simp only [sl] at har
        refine X_rg fun R hR => ?_
        simp only [EVP, aops, astep, awant, aeff, aop, mkD, ev, St.put, pcall, List.map_cons, List.map_nil, List.getElem?_cons_succ, List.getElem?_cons_zero, Option.getD_some, Option.map_some, if_true, List.set_cons_succ, List.set_cons_zero, List.length_cons, List.length_nil, List.drop_zero, List.take_succ_cons, List.take_zero, List.cons_append, List.nil_append, Nat.reduceAdd, Nat.reduceLeDiff, Nat.zero_add, ty_api_Node, ty_api_Program, any65, dN_agg, dG_agg, har]
        with_reducible refine hR _ ?_
        clear hR R
        show X _ _ _ _
        refine X_seq ?_
        refine X_rg fun R hR => ?_
        simp only [inr_i64, Int.reduceLE, Int.reduceNeg, aops, astep, awant, aeff, aop, abin, aint, ev, ofValue, St.put, List.getElem?_cons_succ, List.getElem?_cons_zero, Option.getD_some, Option.map_some, if_true, List.set_cons_succ, List.set_cons_zero, and_self]
        with_reducible refine hR _ ?_
        clear hR R
        show X _ _ _ _
        refine X_ite (by simp only [ev, List.getElem?_cons_succ, List.getElem?_cons_zero, Option.getD_some]; exact rfl) ?_ ?_
        · intro b4
          have c4 := b4
          try simp only [bne_iff_ne, ne_eq] at c4
          have hwi := with_fn path (i : Int) (by omega)
          simp only [sl] at hwi
          obtain ⟨lv1, hacc, hap⟩ := ha.out.app1 (P := Try.prog) (t := 44) und_backstepref06_Fault inf_backstepref06_Fault_eq inf_backstepref06_Fault_size (by omega) (by rw [inf_backstepref06_Fault_bytes]; omega) inf_backstepref06_Fault_zc (dFt ⟨pr, path ++ [(i : Int)], argE p t i vs, t.kids[i].name⟩) (by simp; omega)
          simp only [dFt, sl] at hap hacc
          have ek : (t.kids.map dN)[i]? = some (.agg [.int .u8 t.kids[i].kind, .int .i64 t.kids[i].num, .str t.kids[i].name, sl 4 (t.kids[i].kids.map dN)]) := by rw [show D.agg _ = dN t.kids[i] from (dN_eq _).symm]; simp [hlt]
          refine X_rg fun R hR => ?_
          simp only [EVP, nat_lt, nat_0, nat_to, aops, astep, awant, aeff, aop, mkD, afill, abuild, ev, ofValue, St.put, pcall, gd_int, cl_int, gd_str, ia_str, cl_str, gd_agg, cl_agg, gd_slice, ia_slice, cl_slice, List.map_cons, List.map_nil, List.getElem?_cons_succ, List.getElem?_cons_zero, Option.getD_some, Option.map_some, if_true, List.set_cons_succ, List.set_cons_zero, List.length_map, List.length_cons, List.length_nil, List.drop_succ_cons, List.drop_zero, List.take_succ_cons, List.take_zero, List.cons_append, List.nil_append, Nat.reduceAdd, Nat.reduceLeDiff, Nat.reduceLT, Nat.zero_add, Bool.and_true, Bool.false_eq_true, if_false, and_self, reduceCtorEq, List.all_cons, List.all_nil, beq_self_eq_true, Option.isSome_some, Nat.reduceMul, rng_1, ty_string, ty_s_api_Node, ty_api_Node, und_api_Node, siz_api_Node, inf_api_Node_eq, ty_backstepref06_Fault, st_backstepref06_Fault, sta_backstepref06_Fault, und_backstepref06_Fault, inf_backstepref06_Fault_eq, inf_backstepref06_Fault_size, inf_backstepref06_Fault_zero, any66, sl, b4, hwi, hap, hlt, hn1, ek]
          with_reducible refine hR _ ?_
          clear hR R
          show X _ _ _ _
          refine X_exit ?_
          show X _ _ _ _
          have hbig : i < 9223372036854775807 := by have := Tr.length_kids t; omega
          refine X_rg fun R hR => ?_
          simp only [inr_i64, Int.reduceLE, Int.reduceNeg, aops, astep, awant, aeff, aop, abin, aint, ev, ofValue, St.put, List.getElem?_cons_succ, List.getElem?_cons_zero, Option.getD_some, Option.map_some, if_true, List.set_cons_succ, List.set_cons_zero, and_self, dN_agg, dFt_agg, nat_succ hbig]
          with_reducible refine hR _ ?_
          clear hR R
          show ∃ m, m < _ ∧ _
          have c_call : (t.kind = 50 ∨ t.kind = 51) = True := by first | (simp_all; done) | (simp [*]; done)
          exact ⟨t.kids.length - (i + 1), by omega, i + 1, _, _, L ++ [⟨pr, path ++ [(i : Int)], argE p t i vs, t.kids[i].name⟩], _, _, _, _, rfl, rfl, by omega, Lib.hid hacc, Lib.hid (by rw [hM.out]; simp [dFt, sl]), Lib.hid (by have h1 := hL.out; simp only [c_call, if_true] at h1 ⊢; rw [argsF_drop p pr t path vs t.kids i hlt, rep_y c4, ← List.append_assoc] at h1; exact h1), by simp; omega⟩
        · intro b5
          have c5 := b5
          try simp only [bne_eq_false_iff_eq] at c5
          refine X_skip ?_
          show X _ _ _ _
          refine X_exit ?_
          show X _ _ _ _
          have hbig : i < 9223372036854775807 := by have := Tr.length_kids t; omega
          refine X_rg fun R hR => ?_
          simp only [inr_i64, Int.reduceLE, Int.reduceNeg, aops, astep, awant, aeff, aop, abin, aint, ev, ofValue, St.put, List.getElem?_cons_succ, List.getElem?_cons_zero, Option.getD_some, Option.map_some, if_true, List.set_cons_succ, List.set_cons_zero, and_self, b5, nat_succ hbig]
          with_reducible refine hR _ ?_
          clear hR R
          show ∃ m, m < _ ∧ _
          have c_call : (t.kind = 50 ∨ t.kind = 51) = True := by first | (simp_all; done) | (simp [*]; done)
          exact ⟨t.kids.length - (i + 1), by omega, i + 1, o, n, L, M, _, nx, lv, rfl, rfl, by omega, ha, hM, Lib.hid (by have h1 := hL.out; simp only [c_call, if_true] at h1 ⊢; rw [argsF_drop p pr t path vs t.kids i hlt, rep_n (by simpa using c5)] at h1; exact h1), by omega⟩
      · intro b6
        have c6 := b6
        try simp only [ne_eq, beq_eq_false_iff_ne] at c6
        refine Y_end fun R hR => ?_
        simp only [EVP, inr_u8, Int.reduceLE, aops, astep, awant, aeff, aop, abin, aint, mkD, ev, ofValue, St.put, ia_int, List.getElem?_cons_succ, List.getElem?_cons_zero, Option.getD_some, Option.map_some, Option.bind_some, if_true, List.set_cons_succ, List.set_cons_zero, List.length_cons, List.length_nil, List.drop_zero, List.take_succ_cons, List.take_zero, Nat.reduceAdd, Nat.reduceLeDiff, Nat.zero_add, Nat.add_zero, Bool.false_eq_true, if_false, and_self, reduceCtorEq, beq_self_eq_true, ty_uint8, ty_api_Node, b6]
        with_reducible refine hR _ ?_
        clear hR R
        show X _ _ _ _
        refine X_ite (by simp only [ev, List.getElem?_cons_succ, List.getElem?_cons_zero, Option.getD_some]; exact rfl) ?_ ?_
        · intro b7
          have c7 := b7
          try simp only [beq_iff_eq] at c7
          refine X_seq ?_
          refine X_seq ?_
          have har := rarg_fn p t i vs hlt (by omega) hp
          simp only [sl] at har
          refine X_rg fun R hR => ?_
          simp only [EVP, aops, astep, awant, aeff, aop, mkD, ev, St.put, pcall, List.map_cons, List.map_nil, List.getElem?_cons_succ, List.getElem?_cons_zero, Option.getD_some, Option.map_some, if_true, List.set_cons_succ, List.set_cons_zero, List.length_cons, List.length_nil, List.drop_zero, List.take_succ_cons, List.take_zero, List.cons_append, List.nil_append, Nat.reduceAdd, Nat.reduceLeDiff, Nat.zero_add, ty_api_Node, ty_api_Program, any65, dN_agg, dG_agg, b7, har]
          with_reducible refine hR _ ?_
          clear hR R
          show X _ _ _ _
          refine X_seq ?_
          refine X_rg fun R hR => ?_
          simp only [inr_i64, Int.reduceLE, Int.reduceNeg, aops, astep, awant, aeff, aop, abin, aint, ev, ofValue, St.put, List.getElem?_cons_succ, List.getElem?_cons_zero, Option.getD_some, Option.map_some, if_true, List.set_cons_succ, List.set_cons_zero, and_self]
          with_reducible refine hR _ ?_
          clear hR R
          show X _ _ _ _
          refine X_ite (by simp only [ev, List.getElem?_cons_succ, List.getElem?_cons_zero, Option.getD_some]; exact rfl) ?_ ?_
          · intro b8
            have c8 := b8
            try simp only [bne_iff_ne, ne_eq] at c8
            have hwi := with_fn path (i : Int) (by omega)
            simp only [sl] at hwi
            obtain ⟨lv1, hacc, hap⟩ := ha.out.app1 (P := Try.prog) (t := 44) und_backstepref06_Fault inf_backstepref06_Fault_eq inf_backstepref06_Fault_size (by omega) (by rw [inf_backstepref06_Fault_bytes]; omega) inf_backstepref06_Fault_zc (dFt ⟨pr, path ++ [(i : Int)], argE p t i vs, t.kids[i].name⟩) (by simp; omega)
            simp only [dFt, sl] at hap hacc
            have ek : (t.kids.map dN)[i]? = some (.agg [.int .u8 t.kids[i].kind, .int .i64 t.kids[i].num, .str t.kids[i].name, sl 4 (t.kids[i].kids.map dN)]) := by rw [show D.agg _ = dN t.kids[i] from (dN_eq _).symm]; simp [hlt]
            refine X_rg fun R hR => ?_
            simp only [EVP, nat_lt, nat_0, nat_to, aops, astep, awant, aeff, aop, mkD, afill, abuild, ev, ofValue, St.put, pcall, gd_int, cl_int, gd_str, ia_str, cl_str, gd_agg, cl_agg, gd_slice, ia_slice, cl_slice, List.map_cons, List.map_nil, List.getElem?_cons_succ, List.getElem?_cons_zero, Option.getD_some, Option.map_some, if_true, List.set_cons_succ, List.set_cons_zero, List.length_map, List.length_cons, List.length_nil, List.drop_succ_cons, List.drop_zero, List.take_succ_cons, List.take_zero, List.cons_append, List.nil_append, Nat.reduceAdd, Nat.reduceLeDiff, Nat.reduceLT, Nat.zero_add, Bool.and_true, Bool.false_eq_true, if_false, and_self, reduceCtorEq, List.all_cons, List.all_nil, beq_self_eq_true, Option.isSome_some, Nat.reduceMul, rng_1, ty_string, ty_s_api_Node, ty_api_Node, und_api_Node, siz_api_Node, inf_api_Node_eq, ty_backstepref06_Fault, st_backstepref06_Fault, sta_backstepref06_Fault, und_backstepref06_Fault, inf_backstepref06_Fault_eq, inf_backstepref06_Fault_size, inf_backstepref06_Fault_zero, any66, sl, b8, hwi, hap, hlt, hn1, ek]
            with_reducible refine hR _ ?_
            clear hR R
            show X _ _ _ _
            refine X_exit ?_
            show X _ _ _ _
            have hbig : i < 9223372036854775807 := by have := Tr.length_kids t; omega
            refine X_rg fun R hR => ?_
            simp only [inr_i64, Int.reduceLE, Int.reduceNeg, aops, astep, awant, aeff, aop, abin, aint, ev, ofValue, St.put, List.getElem?_cons_succ, List.getElem?_cons_zero, Option.getD_some, Option.map_some, if_true, List.set_cons_succ, List.set_cons_zero, and_self, dN_agg, dFt_agg, nat_succ hbig]
            with_reducible refine hR _ ?_
            clear hR R
            show ∃ m, m < _ ∧ _
            have c_call : (t.kind = 50 ∨ t.kind = 51) = True := by first | (simp_all; done) | (simp [*]; done)
            exact ⟨t.kids.length - (i + 1), by omega, i + 1, _, _, L ++ [⟨pr, path ++ [(i : Int)], argE p t i vs, t.kids[i].name⟩], _, _, _, _, rfl, rfl, by omega, Lib.hid hacc, Lib.hid (by rw [hM.out]; simp [dFt, sl]), Lib.hid (by have h1 := hL.out; simp only [c_call, if_true] at h1 ⊢; rw [argsF_drop p pr t path vs t.kids i hlt, rep_y c8, ← List.append_assoc] at h1; exact h1), by simp; omega⟩
          · intro b9
            have c9 := b9
            try simp only [bne_eq_false_iff_eq] at c9
            refine X_skip ?_
            show X _ _ _ _
            refine X_exit ?_
            show X _ _ _ _
            have hbig : i < 9223372036854775807 := by have := Tr.length_kids t; omega
            refine X_rg fun R hR => ?_
            simp only [inr_i64, Int.reduceLE, Int.reduceNeg, aops, astep, awant, aeff, aop, abin, aint, ev, ofValue, St.put, List.getElem?_cons_succ, List.getElem?_cons_zero, Option.getD_some, Option.map_some, if_true, List.set_cons_succ, List.set_cons_zero, and_self, b9, nat_succ hbig]
            with_reducible refine hR _ ?_
            clear hR R
            show ∃ m, m < _ ∧ _
            have c_call : (t.kind = 50 ∨ t.kind = 51) = True := by first | (simp_all; done) | (simp [*]; done)
            exact ⟨t.kids.length - (i + 1), by omega, i + 1, o, n, L, M, _, nx, lv, rfl, rfl, by omega, ha, hM, Lib.hid (by have h1 := hL.out; simp only [c_call, if_true] at h1 ⊢; rw [argsF_drop p pr t path vs t.kids i hlt, rep_n (by simpa using c9)] at h1; exact h1), by omega⟩
        · intro b10
          have c10 := b10
          try simp only [ne_eq, beq_eq_false_iff_ne] at c10
          refine X_skip ?_
          show X _ _ _ _
          refine X_seq ?_
          refine X_rg fun R hR => ?_
          simp only [aops, astep, awant, aeff, aop, ev, St.put, List.getElem?_cons_succ, List.getElem?_cons_zero, Option.getD_some, Option.map_some, if_true, List.set_cons_succ, List.set_cons_zero, b10]
          with_reducible refine hR _ ?_
          clear hR R
          show X _ _ _ _
          refine X_seq ?_
          refine X_seq ?_
          have hde := declared6_fn t
          refine X_rg fun R hR => ?_
          simp only [EVP, app_get0, app_set0, aops, astep, awant, aeff, aop, mkD, astore, ev, St.put, pcall, List.map_cons, List.map_nil, List.getElem?_cons_succ, List.getElem?_cons_zero, Option.getD_some, Option.map_some, Option.bind_some, if_true, List.set_cons_succ, List.set_cons_zero, List.length_cons, List.length_nil, List.drop_succ_cons, List.drop_zero, List.take_succ_cons, List.take_zero, List.cons_append, List.nil_append, Nat.reduceAdd, Nat.reduceLeDiff, Nat.zero_add, and_self, ty_api_Node, ty_api_VarDecl, any53, dN_agg, dV_cells, dV_good, hde]
          with_reducible refine hR _ ?_
          clear hR R
          show X _ _ _ _
          refine X_seq ?_
          have hbl := block6_fn t
          refine X_y ?_
          refine Y_k 2 fun R hR => ?_
          simp only [EVP, aops, astep, awant, aeff, aop, ev, St.put, List.getElem?_cons_succ, List.getElem?_cons_zero, Option.getD_some, Option.map_some, if_true, List.set_cons_succ, List.set_cons_zero, List.take_succ_cons, List.take_zero]
          with_reducible refine hR _ ?_
          clear hR R
          simp only [List.drop_succ_cons, List.drop_zero]
          refine Y_if 77 (by simp only [ev, List.getElem?_cons_succ, List.getElem?_cons_zero, Option.getD_some]; exact rfl) ?_ ?_
          · intro b11
            have c11 := b11
            try simp only [Bool.not_eq_true', Bool.not_eq_false', decide_eq_true_eq, decide_eq_false_iff_not, beq_iff_eq, Int.not_lt, Int.not_le, ge_iff_le, gt_iff_lt, bne_iff_ne, ne_eq, bne_eq_false_iff_eq, beq_eq_false_iff_ne, Bool.and_eq_true, Bool.or_eq_false_iff] at c11
            refine Y_end fun R hR => ?_
            simp only [EVP, aops, astep, awant, aeff, aop, abin, aint, mkD, ev, ofValue, St.put, pcall, List.map_cons, List.map_nil, List.getElem?_cons_succ, List.getElem?_cons_zero, Option.getD_some, Option.map_some, Option.bind_some, if_true, List.set_cons_succ, List.set_cons_zero, List.length_cons, List.length_nil, List.drop_zero, List.take_succ_cons, List.take_zero, List.cons_append, List.nil_append, Nat.reduceAdd, Nat.reduceLeDiff, Nat.zero_add, beq_self_eq_true, ty_api_Node, any56, dN_agg, b11, hbl]
            with_reducible refine hR _ ?_
            clear hR R
            show X _ _ _ _
            refine X_ite (by simp only [ev, List.getElem?_cons_succ, List.getElem?_cons_zero, Option.getD_some]; exact rfl) ?_ ?_
            · intro b12
              have c12 := b12
              try simp only [beq_iff_eq] at c12
              obtain ⟨o1, n1, nx1, lv1, o2, nx2, lv2, hap1, hap2, hkp, ho2⟩ := copy_app (P := Try.prog) (t := 22) nx lv und_api_VarDecl inf_api_VarDecl_eq inf_api_VarDecl_size (by omega) (by rw [inf_api_VarDecl_bytes]; omega) inf_api_VarDecl_zc (vs.map dV) (dV (declV t).1) (by simp; omega)
              refine X_rg fun R hR => ?_
              simp only [EVP, app_get0, aops, astep, awant, aeff, aop, mkD, abuild, ev, ofValue, St.put, List.map_cons, List.map_nil, List.getElem?_cons_succ, List.getElem?_cons_zero, Option.getD_some, Option.map_some, if_true, List.set_cons_succ, List.set_cons_zero, List.length_cons, List.length_nil, List.drop_zero, List.take_succ_cons, List.take_zero, Nat.reduceAdd, Nat.reduceLeDiff, Nat.reduceLT, Nat.zero_add, Bool.and_true, and_self, List.all_cons, List.all_nil, beq_self_eq_true, Nat.reduceMul, rng_0, rng_1, ty_api_VarDecl, und_api_VarDecl, inf_api_VarDecl_eq, inf_api_VarDecl_size, inf_api_VarDecl_zero, dV_cells, dV_good, dV_agg, b12, hap1, hap2]
              with_reducible refine hR _ ?_
              clear hR R
              show X _ _ _ _
              have hwi := with_fn path (i : Int) (by omega)
              have ek : (t.kids.map dN)[i]? = some (dN t.kids[i]) := by simp [hlt]
              have hil := innerV_len t (i : Int) vs
              have hih := ih t.kids[i] (Tr.size_kid hlt) (innerV t i vs) (path ++ [(i : Int)]) (by have := Tr.size_kid hlt; simp; omega) (by have := Tr.size_kid hlt; omega)
              have hvl5 := visF_len p pr t.kids[i] (path ++ [(i : Int)]) (innerV t i vs)
              have hin : innerV t i vs = vs ++ [(declV t).1] := inner_y (by first | assumption | simp_all) (by first | assumption | simp_all)
              have hv2 := slV_own o2 ho2 (vs ++ [(declV t).1]) (by simp) (dG p) (.int .i64 pr) (sl 1 ((path ++ [(i : Int)]).map dI)) (dN t.kids[i]) (by simp only [plain, List.all_cons, List.all_nil, sl_pl (f := dI) (fun _ _ => rfl), int_pl, dN_pl, dG_pl, Bool.and_true]) 51
              rw [← hin, hih] at hv2
              rw [hin] at hv2
              simp only [sl, List.map_append, List.map_cons, List.map_nil] at hwi hv2
              obtain ⟨o5, n5, nx5, lv5, ha5, hap5⟩ := (ha.out.keep hkp).appE (P := Try.prog) (t := 44) und_backstepref06_Fault inf_backstepref06_Fault_eq inf_backstepref06_Fault_size (by omega) (by rw [inf_backstepref06_Fault_bytes]; omega) inf_backstepref06_Fault_zc ((visF p pr t.kids[i] (path ++ [(i : Int)]) (innerV t i vs)).map dFt) (by simp; omega)
              rw [hin] at hap5 ha5
              refine X_rg fun R hR => ?_
              simp only [EVP, nat_lt, nat_0, nat_to, aops, astep, awant, aeff, aop, mkD, ev, St.put, pcall, ia_slice, List.map_cons, List.map_nil, List.getElem?_cons_succ, List.getElem?_cons_zero, Option.getD_some, Option.map_some, if_true, List.set_cons_succ, List.set_cons_zero, List.length_map, List.length_cons, List.length_nil, List.drop_succ_cons, List.drop_zero, List.take_succ_cons, List.take_zero, List.cons_append, List.nil_append, Nat.reduceAdd, Nat.reduceLeDiff, Nat.zero_add, Bool.false_eq_true, if_false, and_self, reduceCtorEq, Option.isSome_some, ty_s_api_Node, ty_api_Node, ty_api_Program, und_api_Node, siz_api_Node, inf_api_Node_eq, any51, any66, dN_cells, dN_isAgg, sl, dG_agg, hwi, hv2, hap5, ek, hlt, hn1]
              with_reducible refine hR _ ?_
              clear hR R
              show X _ _ _ _
              have hbig : i < 9223372036854775807 := by have := Tr.length_kids t; omega
              refine X_rg fun R hR => ?_
              simp only [inr_i64, Int.reduceLE, Int.reduceNeg, aops, astep, awant, aeff, aop, abin, aint, ev, ofValue, St.put, List.getElem?_cons_succ, List.getElem?_cons_zero, Option.getD_some, Option.map_some, if_true, List.set_cons_succ, List.set_cons_zero, and_self, nat_succ hbig]
              with_reducible refine hR _ ?_
              clear hR R
              show ∃ m, m < _ ∧ _
              have c_call : (t.kind = 50 ∨ t.kind = 51) = False := by first | (simp_all; done) | (simp [*]; done)
              skip
              exact ⟨t.kids.length - (i + 1), by omega, i + 1, o5, n5, L ++ visF p pr t.kids[i] (path ++ [(i : Int)]) (innerV t i vs), _, _, nx5, lv5, rfl, rfl, by omega, Lib.hid ha5, Lib.hid (by rw [hM.out, hin]; simp), Lib.hid (by have h1 := hL.out; simp only [c_call, if_false] at h1 ⊢; rw [visL_drop p pr t path vs t.kids i hlt, ← List.append_assoc] at h1; exact h1), by rw [List.length_append]; omega⟩
            · intro b13
              have c13 := b13
              try simp only [ne_eq, beq_eq_false_iff_ne] at c13
              refine X_skip ?_
              show X _ _ _ _
              have hwi := with_fn path (i : Int) (by omega)
              have ek : (t.kids.map dN)[i]? = some (dN t.kids[i]) := by simp [hlt]
              have hil := innerV_len t (i : Int) vs
              have hih := ih t.kids[i] (Tr.size_kid hlt) (innerV t i vs) (path ++ [(i : Int)]) (by have := Tr.size_kid hlt; simp; omega) (by have := Tr.size_kid hlt; omega)
              have hvl5 := visF_len p pr t.kids[i] (path ++ [(i : Int)]) (innerV t i vs)
              have hin : innerV t i vs = vs := inner_n (by first | (left; assumption) | (right; assumption) | simp_all)
              rw [hin] at hih
              have hv2 := hih
              simp only [sl, List.map_append, List.map_cons, List.map_nil] at hwi hv2
              obtain ⟨o5, n5, nx5, lv5, ha5, hap5⟩ := ha.out.appE (P := Try.prog) (t := 44) und_backstepref06_Fault inf_backstepref06_Fault_eq inf_backstepref06_Fault_size (by omega) (by rw [inf_backstepref06_Fault_bytes]; omega) inf_backstepref06_Fault_zc ((visF p pr t.kids[i] (path ++ [(i : Int)]) (innerV t i vs)).map dFt) (by simp; omega)
              rw [hin] at hap5 ha5
              refine X_rg fun R hR => ?_
              simp only [EVP, nat_lt, nat_0, nat_to, aops, astep, awant, aeff, aop, mkD, ev, St.put, pcall, ia_slice, List.map_cons, List.map_nil, List.getElem?_cons_succ, List.getElem?_cons_zero, Option.getD_some, Option.map_some, if_true, List.set_cons_succ, List.set_cons_zero, List.length_map, List.length_cons, List.length_nil, List.drop_succ_cons, List.drop_zero, List.take_succ_cons, List.take_zero, List.cons_append, List.nil_append, Nat.reduceAdd, Nat.reduceLeDiff, Nat.zero_add, Bool.false_eq_true, if_false, and_self, reduceCtorEq, Option.isSome_some, ty_s_api_Node, ty_api_Node, ty_api_Program, und_api_Node, siz_api_Node, inf_api_Node_eq, any51, any66, dN_cells, dN_isAgg, sl, dG_agg, b13, hwi, hv2, hap5, ek, hlt, hn1]
              with_reducible refine hR _ ?_
              clear hR R
              show X _ _ _ _
              have hbig : i < 9223372036854775807 := by have := Tr.length_kids t; omega
              refine X_rg fun R hR => ?_
              simp only [inr_i64, Int.reduceLE, Int.reduceNeg, aops, astep, awant, aeff, aop, abin, aint, ev, ofValue, St.put, List.getElem?_cons_succ, List.getElem?_cons_zero, Option.getD_some, Option.map_some, if_true, List.set_cons_succ, List.set_cons_zero, and_self, nat_succ hbig]
              with_reducible refine hR _ ?_
              clear hR R
              show ∃ m, m < _ ∧ _
              have c_call : (t.kind = 50 ∨ t.kind = 51) = False := by first | (simp_all; done) | (simp [*]; done)
              skip
              exact ⟨t.kids.length - (i + 1), by omega, i + 1, o5, n5, L ++ visF p pr t.kids[i] (path ++ [(i : Int)]) (innerV t i vs), _, _, nx5, lv5, rfl, rfl, by omega, Lib.hid ha5, Lib.hid (by rw [hM.out, hin]; simp), Lib.hid (by have h1 := hL.out; simp only [c_call, if_false] at h1 ⊢; rw [visL_drop p pr t path vs t.kids i hlt, ← List.append_assoc] at h1; exact h1), by rw [List.length_append]; omega⟩
          · intro b14
            have c14 := b14
            try simp only [Bool.not_eq_true', Bool.not_eq_false', decide_eq_true_eq, decide_eq_false_iff_not, beq_iff_eq, Int.not_lt, Int.not_le, ge_iff_le, gt_iff_lt, bne_iff_ne, ne_eq, bne_eq_false_iff_eq, beq_eq_false_iff_ne, Bool.and_eq_true, Bool.or_eq_false_iff] at c14
            refine Y_end fun R hR => ?_
            simp only [EVP, aops, astep, awant, aeff, aop, abin, mkD, ev, ofValue, St.put, pcall, List.map_cons, List.map_nil, List.getElem?_cons_succ, List.getElem?_cons_zero, Option.getD_some, Option.map_some, Option.map_none, Option.bind_some, if_true, List.set_cons_succ, List.set_cons_zero, List.length_cons, List.length_nil, List.drop_zero, List.take_succ_cons, List.take_zero, List.cons_append, List.nil_append, Nat.reduceAdd, Nat.reduceLeDiff, Nat.zero_add, Bool.false_eq_true, if_false, bq_ft, ty_api_Node, any56, dN_agg, b14]
            with_reducible refine hR _ ?_
            clear hR R
            show X _ _ _ _
            refine X_false (by simp only [ev, List.getElem?_cons_succ, List.getElem?_cons_zero, Option.getD_some]) ?_
            refine X_skip ?_
            show X _ _ _ _
            have hwi := with_fn path (i : Int) (by omega)
            have ek : (t.kids.map dN)[i]? = some (dN t.kids[i]) := by simp [hlt]
            have hil := innerV_len t (i : Int) vs
            have hih := ih t.kids[i] (Tr.size_kid hlt) (innerV t i vs) (path ++ [(i : Int)]) (by have := Tr.size_kid hlt; simp; omega) (by have := Tr.size_kid hlt; omega)
            have hvl5 := visF_len p pr t.kids[i] (path ++ [(i : Int)]) (innerV t i vs)
            have hin : innerV t i vs = vs := inner_n (by first | (left; assumption) | (right; assumption) | simp_all)
            rw [hin] at hih
            have hv2 := hih
            simp only [sl, List.map_append, List.map_cons, List.map_nil] at hwi hv2
            obtain ⟨o5, n5, nx5, lv5, ha5, hap5⟩ := ha.out.appE (P := Try.prog) (t := 44) und_backstepref06_Fault inf_backstepref06_Fault_eq inf_backstepref06_Fault_size (by omega) (by rw [inf_backstepref06_Fault_bytes]; omega) inf_backstepref06_Fault_zc ((visF p pr t.kids[i] (path ++ [(i : Int)]) (innerV t i vs)).map dFt) (by simp; omega)
            rw [hin] at hap5 ha5
            refine X_rg fun R hR => ?_
            simp only [EVP, nat_lt, nat_0, nat_to, aops, astep, awant, aeff, aop, mkD, ev, St.put, pcall, ia_slice, List.map_cons, List.map_nil, List.getElem?_cons_succ, List.getElem?_cons_zero, Option.getD_some, Option.map_some, if_true, List.set_cons_succ, List.set_cons_zero, List.length_map, List.length_cons, List.length_nil, List.drop_succ_cons, List.drop_zero, List.take_succ_cons, List.take_zero, List.cons_append, List.nil_append, Nat.reduceAdd, Nat.reduceLeDiff, Nat.zero_add, Bool.false_eq_true, if_false, and_self, reduceCtorEq, Option.isSome_some, ty_s_api_Node, ty_api_Node, ty_api_Program, und_api_Node, siz_api_Node, inf_api_Node_eq, any51, any66, dN_cells, dN_isAgg, sl, dG_agg, hwi, hv2, hap5, ek, hlt, hn1]
            with_reducible refine hR _ ?_
            clear hR R
            show X _ _ _ _
            have hbig : i < 9223372036854775807 := by have := Tr.length_kids t; omega
            refine X_rg fun R hR => ?_
            simp only [inr_i64, Int.reduceLE, Int.reduceNeg, aops, astep, awant, aeff, aop, abin, aint, ev, ofValue, St.put, List.getElem?_cons_succ, List.getElem?_cons_zero, Option.getD_some, Option.map_some, if_true, List.set_cons_succ, List.set_cons_zero, and_self, nat_succ hbig]
            with_reducible refine hR _ ?_
            clear hR R
            show ∃ m, m < _ ∧ _
            have c_call : (t.kind = 50 ∨ t.kind = 51) = False := by first | (simp_all; done) | (simp [*]; done)
            skip
            exact ⟨t.kids.length - (i + 1), by omega, i + 1, o5, n5, L ++ visF p pr t.kids[i] (path ++ [(i : Int)]) (innerV t i vs), _, _, nx5, lv5, rfl, rfl, by omega, Lib.hid ha5, Lib.hid (by rw [hM.out, hin]; simp), Lib.hid (by have h1 := hL.out; simp only [c_call, if_false] at h1 ⊢; rw [visL_drop p pr t path vs t.kids i hlt, ← List.append_assoc] at h1; exact h1), by rw [List.length_append]; omega⟩
    · intro b15
      have c15 := b15
      try simp only [decide_eq_false_iff_not] at c15
      refine X_exit ?_
      show X _ _ _ _
      refine X_seq ?_
      refine X_rg fun R hR => ?_
      simp only [aops, astep, awant, aeff, aop, ev, St.put, List.getElem?_cons_succ, List.getElem?_cons_zero, Option.getD_some, Option.map_some, if_true, List.set_cons_succ, List.set_cons_zero, b15]
      with_reducible refine hR _ ?_
      clear hR R
      show X _ _ _ _
      refine X_ret ?_
      show ∃ d, resD _ _ _ = some d ∧ _ ∧ _
      simp only [resD, resAll, resOne, resTup, Try.results51, EVP, List.getElem?_cons_succ, List.getElem?_cons_zero, D.good, if_true, Option.map_some]
      have hT : L = visF p pr t path vs := by have h1 := hL.out; rw [List.drop_of_length_le (by omega)] at h1; simpa only [argsF, visL, ite_self, List.append_nil] using h1
      have hst := ha.out.a.strip
      exact ⟨_, rfl, by rw [hM.out]; simp only [D.under, unders_id dFt_under], by rw [hst, hM.out, List.map_map, show (D.strip ∘ dFt) = dFt from funext dFt_strip, hT]; rfl⟩
  · intro b16
    have c16 := b16
    try simp only [bne_eq_false_iff_eq] at c16
    refine X_skip ?_
    show X _ _ _ _
    refine X_seq ?_
    refine X_seq ?_
    refine X_rg fun R hR => ?_
    simp only [inr_i64, Int.reduceLE, Int.reduceNeg, aops, astep, awant, aeff, aop, ev, ofValue, St.put, Option.getD_some, Option.map_some, if_true, List.set_cons_succ, List.set_cons_zero, and_self, b16]
    with_reducible refine hR _ ?_
    clear hR R
    show X _ _ _ _
    refine X_block ?_
    refine X_loop (fun m σ => ∃ (i : Nat) (o : Own) (n : Nat) (L : List Ft) (M : List D) (r : List (List D)) (nx : Nat) (lv : List Nat), σ = ⟨[slotOf σ 0, .slice .imm (if (vs.map dV).isEmpty = true then 0 else 3) (vs.map dV), .int .i64 pr, .slice .imm (if (path.map dI).isEmpty = true then 0 else 1) (path.map dI), slotOf σ 4, .ptr 0 0, slotOf σ 6, slotOf σ 7, slotOf σ 8, .ptr 1 0, slotOf σ 10, .slice o n M, slotOf σ 12, .int .i64 i, slotOf σ 14, slotOf σ 15, slotOf σ 16, slotOf σ 17, slotOf σ 18, slotOf σ 19, slotOf σ 20, slotOf σ 21, slotOf σ 22, slotOf σ 23, slotOf σ 24, slotOf σ 25, slotOf σ 26, slotOf σ 27, slotOf σ 28, slotOf σ 29, slotOf σ 30, slotOf σ 31, slotOf σ 32, slotOf σ 33, slotOf σ 34, slotOf σ 35, slotOf σ 36, slotOf σ 37, slotOf σ 38, slotOf σ 39, slotOf σ 40, slotOf σ 41, slotOf σ 42, slotOf σ 43, slotOf σ 44, slotOf σ 45, slotOf σ 46, slotOf σ 47, slotOf σ 48, slotOf σ 49, slotOf σ 50, slotOf σ 51, slotOf σ 52, slotOf σ 53, slotOf σ 54, slotOf σ 55, slotOf σ 56, slotOf σ 57, slotOf σ 58, slotOf σ 59, slotOf σ 60, slotOf σ 61, slotOf σ 62, slotOf σ 63, slotOf σ 64, slotOf σ 65, slotOf σ 66, slotOf σ 67, slotOf σ 68, slotOf σ 69, slotOf σ 70, slotOf σ 71, slotOf σ 72, slotOf σ 73, slotOf σ 74, slotOf σ 75, slotOf σ 76, slotOf σ 77, slotOf σ 78, slotOf σ 79, slotOf σ 80, slotOf σ 81, slotOf σ 82, slotOf σ 83, slotOf σ 84, slotOf σ 85, slotOf σ 86, slotOf σ 87, slotOf σ 88, slotOf σ 89, slotOf σ 90, slotOf σ 91, slotOf σ 92, slotOf σ 93, slotOf σ 94, slotOf σ 95, slotOf σ 96, slotOf σ 97, slotOf σ 98, slotOf σ 99, slotOf σ 100, slotOf σ 101, slotOf σ 102, slotOf σ 103], [.slice .imm (if (p.vars.map dV).isEmpty = true then 0 else 3) (p.vars.map dV), .slice .imm (if (p.procs.map dP).isEmpty = true then 0 else 6) (p.procs.map dP), .int .u8 p.main.kind, .int .i64 p.main.num, .str p.main.name, .slice .imm (if (p.main.kids.map dN).isEmpty = true then 0 else 4) (p.main.kids.map dN)] :: [.int .u8 t.kind, .int .i64 t.num, .str t.name, .slice .imm (if (t.kids.map dN).isEmpty = true then 0 else 4) (t.kids.map dN)] :: r, nx, lv⟩ ∧ m = t.kids.length - i ∧ i ≤ t.kids.length ∧ Hid (AccB 81 4 o n M nx lv) ∧ Hid (M = L.map dFt) ∧ Hid (L ++ (if t.kind = 50 ∨ t.kind = 51 then argsF p pr t path vs (t.kids.drop i) i else visL p pr t path vs (t.kids.drop i) i) = visF p pr t path vs) ∧ L.length + Tr.sizes (t.kids.drop i) ≤ t.size) ?_ (t.kids.length) _ ?_
    rotate_left
    · exact ⟨0, .nil, 0, [], [], [], 0, [], rfl, rfl, Nat.zero_le _, Lib.hid (.nil _ _ _ _), Lib.hid rfl, Lib.hid (by rw [visF_eq, rep_n (by simpa using c16), List.drop_zero]), by have := size_kids t; simp only [List.length_nil, List.drop_zero]; omega⟩
    rintro m σ ⟨i, o, n, L, M, r, nx, lv, hσ, rfl, hi, ha, hM, hL, hs⟩
    generalize slotOf σ = x at hσ
    subst hσ
    have hn4 : ∀ j, j < t.kids.length → ((if (t.kids.map dN).isEmpty = true then 0 else 4) = 4) = True := fun j h => eq_true (sl_n (j := j) (by simpa using h))
    have hml : M.length = L.length := by rw [hM.out]; simp
    refine X_seq ?_
    refine X_seq ?_
    refine X_rg fun R hR => ?_
    simp only [EVP, nat_lt, aops, astep, awant, aeff, aop, abin, aint, mkD, ev, St.put, ia_slice, List.getElem?_cons_succ, List.getElem?_cons_zero, Option.getD_some, Option.map_some, if_true, List.set_cons_succ, List.set_cons_zero, List.length_map, List.length_cons, List.length_nil, List.drop_succ_cons, List.drop_zero, List.take_succ_cons, List.take_zero, Nat.reduceAdd, Nat.reduceLeDiff, Nat.zero_add, Bool.false_eq_true, if_false, reduceCtorEq, ty_s_api_Node, ty_api_Node, und_api_Node]
    with_reducible refine hR _ ?_
    clear hR R
    show X _ _ _ _
    refine X_ite (by simp only [ev, List.getElem?_cons_succ, List.getElem?_cons_zero, Option.getD_some]; exact rfl) ?_ ?_
    · intro b17
      have c17 := b17
      try simp only [decide_eq_true_eq] at c17
      refine X_skip ?_
      show X _ _ _ _
      refine X_seq ?_
      refine X_block ?_
      refine X_seq ?_
      refine X_seq ?_
      have hlt : i < t.kids.length := by first | assumption | omega
      have hn1 := hn4 i hlt
      have hsd := sizes_drop t.kids i hlt
      have hsp := size_ge1 t.kids[i]
      refine X_y ?_
      refine Y_k 4 fun R hR => ?_
      simp only [EVP, inr_u8, Int.reduceLE, aops, astep, awant, aeff, aop, abin, aint, mkD, ev, ofValue, St.put, ia_int, List.getElem?_cons_succ, List.getElem?_cons_zero, Option.getD_some, Option.map_some, if_true, List.set_cons_succ, List.set_cons_zero, List.length_cons, List.length_nil, List.drop_zero, List.take_succ_cons, List.take_zero, Nat.reduceAdd, Nat.reduceLeDiff, Nat.zero_add, Nat.add_zero, Bool.false_eq_true, if_false, and_self, reduceCtorEq, decide_true, ty_uint8, ty_api_Node, hlt]
      with_reducible refine hR _ ?_
      clear hR R
      simp only [List.drop_succ_cons, List.drop_zero]
      refine Y_if 43 (by simp only [ev, List.getElem?_cons_succ, List.getElem?_cons_zero, Option.getD_some]; exact rfl) ?_ ?_
      · intro b18
        have c18 := b18
        try simp only [beq_iff_eq] at c18
        refine Y_end fun R hR => ?_
        simp only [EVP, inr_u8, Int.reduceLE, aops, astep, awant, aeff, aop, abin, ev, ofValue, St.put, List.getElem?_cons_succ, List.getElem?_cons_zero, Option.getD_some, Option.map_some, Option.map_none, Option.bind_some, if_true, List.set_cons_succ, List.set_cons_zero, Nat.add_zero, Bool.false_eq_true, if_false, and_self, reduceCtorEq, bq_tf, ty_uint8, ty_api_Node, b18]
        with_reducible refine hR _ ?_
        clear hR R
        show X _ _ _ _
        refine X_true (by simp only [ev, List.getElem?_cons_succ, List.getElem?_cons_zero, Option.getD_some]) ?_
        refine X_seq ?_
        refine X_seq ?_
        have har := rarg_fn p t i vs hlt (by omega) hp
        simp only [sl] at har
        refine X_rg fun R hR => ?_
        simp only [EVP, aops, astep, awant, aeff, aop, mkD, ev, St.put, pcall, List.map_cons, List.map_nil, List.getElem?_cons_succ, List.getElem?_cons_zero, Option.getD_some, Option.map_some, if_true, List.set_cons_succ, List.set_cons_zero, List.length_cons, List.length_nil, List.drop_zero, List.take_succ_cons, List.take_zero, List.cons_append, List.nil_append, Nat.reduceAdd, Nat.reduceLeDiff, Nat.zero_add, ty_api_Node, ty_api_Program, any65, dN_agg, dG_agg, har]
        with_reducible refine hR _ ?_
        clear hR R
        show X _ _ _ _
        refine X_seq ?_
        refine X_rg fun R hR => ?_
        simp only [inr_i64, Int.reduceLE, Int.reduceNeg, aops, astep, awant, aeff, aop, abin, aint, ev, ofValue, St.put, List.getElem?_cons_succ, List.getElem?_cons_zero, Option.getD_some, Option.map_some, if_true, List.set_cons_succ, List.set_cons_zero, and_self]
        with_reducible refine hR _ ?_
        clear hR R
        show X _ _ _ _
        refine X_ite (by simp only [ev, List.getElem?_cons_succ, List.getElem?_cons_zero, Option.getD_some]; exact rfl) ?_ ?_
        · intro b19
          have c19 := b19
          try simp only [bne_iff_ne, ne_eq] at c19
          have hwi := with_fn path (i : Int) (by omega)
          simp only [sl] at hwi
          obtain ⟨lv1, hacc, hap⟩ := ha.out.app1 (P := Try.prog) (t := 44) und_backstepref06_Fault inf_backstepref06_Fault_eq inf_backstepref06_Fault_size (by omega) (by rw [inf_backstepref06_Fault_bytes]; omega) inf_backstepref06_Fault_zc (dFt ⟨pr, path ++ [(i : Int)], argE p t i vs, t.kids[i].name⟩) (by simp; omega)
          simp only [dFt, sl] at hap hacc
          have ek : (t.kids.map dN)[i]? = some (.agg [.int .u8 t.kids[i].kind, .int .i64 t.kids[i].num, .str t.kids[i].name, sl 4 (t.kids[i].kids.map dN)]) := by rw [show D.agg _ = dN t.kids[i] from (dN_eq _).symm]; simp [hlt]
          refine X_rg fun R hR => ?_
          simp only [EVP, nat_lt, nat_0, nat_to, aops, astep, awant, aeff, aop, mkD, afill, abuild, ev, ofValue, St.put, pcall, gd_int, cl_int, gd_str, ia_str, cl_str, gd_agg, cl_agg, gd_slice, ia_slice, cl_slice, List.map_cons, List.map_nil, List.getElem?_cons_succ, List.getElem?_cons_zero, Option.getD_some, Option.map_some, if_true, List.set_cons_succ, List.set_cons_zero, List.length_map, List.length_cons, List.length_nil, List.drop_succ_cons, List.drop_zero, List.take_succ_cons, List.take_zero, List.cons_append, List.nil_append, Nat.reduceAdd, Nat.reduceLeDiff, Nat.reduceLT, Nat.zero_add, Bool.and_true, Bool.false_eq_true, if_false, and_self, reduceCtorEq, List.all_cons, List.all_nil, beq_self_eq_true, Option.isSome_some, Nat.reduceMul, rng_1, ty_string, ty_s_api_Node, ty_api_Node, und_api_Node, siz_api_Node, inf_api_Node_eq, ty_backstepref06_Fault, st_backstepref06_Fault, sta_backstepref06_Fault, und_backstepref06_Fault, inf_backstepref06_Fault_eq, inf_backstepref06_Fault_size, inf_backstepref06_Fault_zero, any66, sl, b19, hwi, hap, hlt, hn1, ek]
          with_reducible refine hR _ ?_
          clear hR R
          show X _ _ _ _
          refine X_exit ?_
          show X _ _ _ _
          have hbig : i < 9223372036854775807 := by have := Tr.length_kids t; omega
          refine X_rg fun R hR => ?_
          simp only [inr_i64, Int.reduceLE, Int.reduceNeg, aops, astep, awant, aeff, aop, abin, aint, ev, ofValue, St.put, List.getElem?_cons_succ, List.getElem?_cons_zero, Option.getD_some, Option.map_some, if_true, List.set_cons_succ, List.set_cons_zero, and_self, dN_agg, dFt_agg, nat_succ hbig]
          with_reducible refine hR _ ?_
          clear hR R
          show ∃ m, m < _ ∧ _
          have c_call : (t.kind = 50 ∨ t.kind = 51) = True := by first | (simp_all; done) | (simp [*]; done)
          exact ⟨t.kids.length - (i + 1), by omega, i + 1, _, _, L ++ [⟨pr, path ++ [(i : Int)], argE p t i vs, t.kids[i].name⟩], _, _, _, _, rfl, rfl, by omega, Lib.hid hacc, Lib.hid (by rw [hM.out]; simp [dFt, sl]), Lib.hid (by have h1 := hL.out; simp only [c_call, if_true] at h1 ⊢; rw [argsF_drop p pr t path vs t.kids i hlt, rep_y c19, ← List.append_assoc] at h1; exact h1), by simp; omega⟩
        · intro b20
          have c20 := b20
          try simp only [bne_eq_false_iff_eq] at c20
          refine X_skip ?_
          show X _ _ _ _
          refine X_exit ?_
          show X _ _ _ _
          have hbig : i < 9223372036854775807 := by have := Tr.length_kids t; omega
          refine X_rg fun R hR => ?_
          simp only [inr_i64, Int.reduceLE, Int.reduceNeg, aops, astep, awant, aeff, aop, abin, aint, ev, ofValue, St.put, List.getElem?_cons_succ, List.getElem?_cons_zero, Option.getD_some, Option.map_some, if_true, List.set_cons_succ, List.set_cons_zero, and_self, b20, nat_succ hbig]
          with_reducible refine hR _ ?_
          clear hR R
          show ∃ m, m < _ ∧ _
          have c_call : (t.kind = 50 ∨ t.kind = 51) = True := by first | (simp_all; done) | (simp [*]; done)
          exact ⟨t.kids.length - (i + 1), by omega, i + 1, o, n, L, M, _, nx, lv, rfl, rfl, by omega, ha, hM, Lib.hid (by have h1 := hL.out; simp only [c_call, if_true] at h1 ⊢; rw [argsF_drop p pr t path vs t.kids i hlt, rep_n (by simpa using c20)] at h1; exact h1), by omega⟩
      · intro b21
        have c21 := b21
        try simp only [ne_eq, beq_eq_false_iff_ne] at c21
        refine Y_end fun R hR => ?_
        simp only [EVP, inr_u8, Int.reduceLE, aops, astep, awant, aeff, aop, abin, aint, mkD, ev, ofValue, St.put, ia_int, List.getElem?_cons_succ, List.getElem?_cons_zero, Option.getD_some, Option.map_some, Option.bind_some, if_true, List.set_cons_succ, List.set_cons_zero, List.length_cons, List.length_nil, List.drop_zero, List.take_succ_cons, List.take_zero, Nat.reduceAdd, Nat.reduceLeDiff, Nat.zero_add, Nat.add_zero, Bool.false_eq_true, if_false, and_self, reduceCtorEq, beq_self_eq_true, ty_uint8, ty_api_Node, b21]
        with_reducible refine hR _ ?_
        clear hR R
        show X _ _ _ _
        refine X_ite (by simp only [ev, List.getElem?_cons_succ, List.getElem?_cons_zero, Option.getD_some]; exact rfl) ?_ ?_
        · intro b22
          have c22 := b22
          try simp only [beq_iff_eq] at c22
          refine X_seq ?_
          refine X_seq ?_
          have har := rarg_fn p t i vs hlt (by omega) hp
          simp only [sl] at har
          refine X_rg fun R hR => ?_
          simp only [EVP, aops, astep, awant, aeff, aop, mkD, ev, St.put, pcall, List.map_cons, List.map_nil, List.getElem?_cons_succ, List.getElem?_cons_zero, Option.getD_some, Option.map_some, if_true, List.set_cons_succ, List.set_cons_zero, List.length_cons, List.length_nil, List.drop_zero, List.take_succ_cons, List.take_zero, List.cons_append, List.nil_append, Nat.reduceAdd, Nat.reduceLeDiff, Nat.zero_add, ty_api_Node, ty_api_Program, any65, dN_agg, dG_agg, b22, har]
          with_reducible refine hR _ ?_
          clear hR R
          show X _ _ _ _
          refine X_seq ?_
          refine X_rg fun R hR => ?_
          simp only [inr_i64, Int.reduceLE, Int.reduceNeg, aops, astep, awant, aeff, aop, abin, aint, ev, ofValue, St.put, List.getElem?_cons_succ, List.getElem?_cons_zero, Option.getD_some, Option.map_some, if_true, List.set_cons_succ, List.set_cons_zero, and_self]
          with_reducible refine hR _ ?_
          clear hR R
          show X _ _ _ _
          refine X_ite (by simp only [ev, List.getElem?_cons_succ, List.getElem?_cons_zero, Option.getD_some]; exact rfl) ?_ ?_
          · intro b23
            have c23 := b23
            try simp only [bne_iff_ne, ne_eq] at c23
            have hwi := with_fn path (i : Int) (by omega)
            simp only [sl] at hwi
            obtain ⟨lv1, hacc, hap⟩ := ha.out.app1 (P := Try.prog) (t := 44) und_backstepref06_Fault inf_backstepref06_Fault_eq inf_backstepref06_Fault_size (by omega) (by rw [inf_backstepref06_Fault_bytes]; omega) inf_backstepref06_Fault_zc (dFt ⟨pr, path ++ [(i : Int)], argE p t i vs, t.kids[i].name⟩) (by simp; omega)
            simp only [dFt, sl] at hap hacc
            have ek : (t.kids.map dN)[i]? = some (.agg [.int .u8 t.kids[i].kind, .int .i64 t.kids[i].num, .str t.kids[i].name, sl 4 (t.kids[i].kids.map dN)]) := by rw [show D.agg _ = dN t.kids[i] from (dN_eq _).symm]; simp [hlt]
            refine X_rg fun R hR => ?_
            simp only [EVP, nat_lt, nat_0, nat_to, aops, astep, awant, aeff, aop, mkD, afill, abuild, ev, ofValue, St.put, pcall, gd_int, cl_int, gd_str, ia_str, cl_str, gd_agg, cl_agg, gd_slice, ia_slice, cl_slice, List.map_cons, List.map_nil, List.getElem?_cons_succ, List.getElem?_cons_zero, Option.getD_some, Option.map_some, if_true, List.set_cons_succ, List.set_cons_zero, List.length_map, List.length_cons, List.length_nil, List.drop_succ_cons, List.drop_zero, List.take_succ_cons, List.take_zero, List.cons_append, List.nil_append, Nat.reduceAdd, Nat.reduceLeDiff, Nat.reduceLT, Nat.zero_add, Bool.and_true, Bool.false_eq_true, if_false, and_self, reduceCtorEq, List.all_cons, List.all_nil, beq_self_eq_true, Option.isSome_some, Nat.reduceMul, rng_1, ty_string, ty_s_api_Node, ty_api_Node, und_api_Node, siz_api_Node, inf_api_Node_eq, ty_backstepref06_Fault, st_backstepref06_Fault, sta_backstepref06_Fault, und_backstepref06_Fault, inf_backstepref06_Fault_eq, inf_backstepref06_Fault_size, inf_backstepref06_Fault_zero, any66, sl, b23, hwi, hap, hlt, hn1, ek]
            with_reducible refine hR _ ?_
            clear hR R
            show X _ _ _ _
            refine X_exit ?_
            show X _ _ _ _
            have hbig : i < 9223372036854775807 := by have := Tr.length_kids t; omega
            refine X_rg fun R hR => ?_
            simp only [inr_i64, Int.reduceLE, Int.reduceNeg, aops, astep, awant, aeff, aop, abin, aint, ev, ofValue, St.put, List.getElem?_cons_succ, List.getElem?_cons_zero, Option.getD_some, Option.map_some, if_true, List.set_cons_succ, List.set_cons_zero, and_self, dN_agg, dFt_agg, nat_succ hbig]
            with_reducible refine hR _ ?_
            clear hR R
            show ∃ m, m < _ ∧ _
            have c_call : (t.kind = 50 ∨ t.kind = 51) = True := by first | (simp_all; done) | (simp [*]; done)
            exact ⟨t.kids.length - (i + 1), by omega, i + 1, _, _, L ++ [⟨pr, path ++ [(i : Int)], argE p t i vs, t.kids[i].name⟩], _, _, _, _, rfl, rfl, by omega, Lib.hid hacc, Lib.hid (by rw [hM.out]; simp [dFt, sl]), Lib.hid (by have h1 := hL.out; simp only [c_call, if_true] at h1 ⊢; rw [argsF_drop p pr t path vs t.kids i hlt, rep_y c23, ← List.append_assoc] at h1; exact h1), by simp; omega⟩
          · intro b24
            have c24 := b24
            try simp only [bne_eq_false_iff_eq] at c24
            refine X_skip ?_
            show X _ _ _ _
            refine X_exit ?_
            show X _ _ _ _
            have hbig : i < 9223372036854775807 := by have := Tr.length_kids t; omega
            refine X_rg fun R hR => ?_
            simp only [inr_i64, Int.reduceLE, Int.reduceNeg, aops, astep, awant, aeff, aop, abin, aint, ev, ofValue, St.put, List.getElem?_cons_succ, List.getElem?_cons_zero, Option.getD_some, Option.map_some, if_true, List.set_cons_succ, List.set_cons_zero, and_self, b24, nat_succ hbig]
            with_reducible refine hR _ ?_
            clear hR R
            show ∃ m, m < _ ∧ _
            have c_call : (t.kind = 50 ∨ t.kind = 51) = True := by first | (simp_all; done) | (simp [*]; done)
            exact ⟨t.kids.length - (i + 1), by omega, i + 1, o, n, L, M, _, nx, lv, rfl, rfl, by omega, ha, hM, Lib.hid (by have h1 := hL.out; simp only [c_call, if_true] at h1 ⊢; rw [argsF_drop p pr t path vs t.kids i hlt, rep_n (by simpa using c24)] at h1; exact h1), by omega⟩
        · intro b25
          have c25 := b25
          try simp only [ne_eq, beq_eq_false_iff_ne] at c25
          refine X_skip ?_
          show X _ _ _ _
          refine X_seq ?_
          refine X_rg fun R hR => ?_
          simp only [aops, astep, awant, aeff, aop, ev, St.put, List.getElem?_cons_succ, List.getElem?_cons_zero, Option.getD_some, Option.map_some, if_true, List.set_cons_succ, List.set_cons_zero, b25]
          with_reducible refine hR _ ?_
          clear hR R
          show X _ _ _ _
          refine X_seq ?_
          refine X_seq ?_
          have hde := declared6_fn t
          refine X_rg fun R hR => ?_
          simp only [EVP, app_get0, app_set0, aops, astep, awant, aeff, aop, mkD, astore, ev, St.put, pcall, List.map_cons, List.map_nil, List.getElem?_cons_succ, List.getElem?_cons_zero, Option.getD_some, Option.map_some, Option.bind_some, if_true, List.set_cons_succ, List.set_cons_zero, List.length_cons, List.length_nil, List.drop_succ_cons, List.drop_zero, List.take_succ_cons, List.take_zero, List.cons_append, List.nil_append, Nat.reduceAdd, Nat.reduceLeDiff, Nat.zero_add, and_self, ty_api_Node, ty_api_VarDecl, any53, dN_agg, dV_cells, dV_good, hde]
          with_reducible refine hR _ ?_
          clear hR R
          show X _ _ _ _
          refine X_seq ?_
          have hbl := block6_fn t
          refine X_y ?_
          refine Y_k 2 fun R hR => ?_
          simp only [EVP, aops, astep, awant, aeff, aop, ev, St.put, List.getElem?_cons_succ, List.getElem?_cons_zero, Option.getD_some, Option.map_some, if_true, List.set_cons_succ, List.set_cons_zero, List.take_succ_cons, List.take_zero]
          with_reducible refine hR _ ?_
          clear hR R
          simp only [List.drop_succ_cons, List.drop_zero]
          refine Y_if 77 (by simp only [ev, List.getElem?_cons_succ, List.getElem?_cons_zero, Option.getD_some]; exact rfl) ?_ ?_
          · intro b26
            have c26 := b26
            try simp only [Bool.not_eq_true', Bool.not_eq_false', decide_eq_true_eq, decide_eq_false_iff_not, beq_iff_eq, Int.not_lt, Int.not_le, ge_iff_le, gt_iff_lt, bne_iff_ne, ne_eq, bne_eq_false_iff_eq, beq_eq_false_iff_ne, Bool.and_eq_true, Bool.or_eq_false_iff] at c26
            refine Y_end fun R hR => ?_
            simp only [EVP, aops, astep, awant, aeff, aop, abin, aint, mkD, ev, ofValue, St.put, pcall, List.map_cons, List.map_nil, List.getElem?_cons_succ, List.getElem?_cons_zero, Option.getD_some, Option.map_some, Option.bind_some, if_true, List.set_cons_succ, List.set_cons_zero, List.length_cons, List.length_nil, List.drop_zero, List.take_succ_cons, List.take_zero, List.cons_append, List.nil_append, Nat.reduceAdd, Nat.reduceLeDiff, Nat.zero_add, beq_self_eq_true, ty_api_Node, any56, dN_agg, b26, hbl]
            with_reducible refine hR _ ?_
            clear hR R
            show X _ _ _ _
            refine X_ite (by simp only [ev, List.getElem?_cons_succ, List.getElem?_cons_zero, Option.getD_some]; exact rfl) ?_ ?_
            · intro b27
              have c27 := b27
              try simp only [beq_iff_eq] at c27
              obtain ⟨o1, n1, nx1, lv1, o2, nx2, lv2, hap1, hap2, hkp, ho2⟩ := copy_app (P := Try.prog) (t := 22) nx lv und_api_VarDecl inf_api_VarDecl_eq inf_api_VarDecl_size (by omega) (by rw [inf_api_VarDecl_bytes]; omega) inf_api_VarDecl_zc (vs.map dV) (dV (declV t).1) (by simp; omega)
              refine X_rg fun R hR => ?_
              simp only [EVP, app_get0, aops, astep, awant, aeff, aop, mkD, abuild, ev, ofValue, St.put, List.map_cons, List.map_nil, List.getElem?_cons_succ, List.getElem?_cons_zero, Option.getD_some, Option.map_some, if_true, List.set_cons_succ, List.set_cons_zero, List.length_cons, List.length_nil, List.drop_zero, List.take_succ_cons, List.take_zero, Nat.reduceAdd, Nat.reduceLeDiff, Nat.reduceLT, Nat.zero_add, Bool.and_true, and_self, List.all_cons, List.all_nil, beq_self_eq_true, Nat.reduceMul, rng_0, rng_1, ty_api_VarDecl, und_api_VarDecl, inf_api_VarDecl_eq, inf_api_VarDecl_size, inf_api_VarDecl_zero, dV_cells, dV_good, dV_agg, b27, hap1, hap2]
              with_reducible refine hR _ ?_
              clear hR R
              show X _ _ _ _
              have hwi := with_fn path (i : Int) (by omega)
              have ek : (t.kids.map dN)[i]? = some (dN t.kids[i]) := by simp [hlt]
              have hil := innerV_len t (i : Int) vs
              have hih := ih t.kids[i] (Tr.size_kid hlt) (innerV t i vs) (path ++ [(i : Int)]) (by have := Tr.size_kid hlt; simp; omega) (by have := Tr.size_kid hlt; omega)
              have hvl5 := visF_len p pr t.kids[i] (path ++ [(i : Int)]) (innerV t i vs)
              have hin : innerV t i vs = vs ++ [(declV t).1] := inner_y (by first | assumption | simp_all) (by first | assumption | simp_all)
              have hv2 := slV_own o2 ho2 (vs ++ [(declV t).1]) (by simp) (dG p) (.int .i64 pr) (sl 1 ((path ++ [(i : Int)]).map dI)) (dN t.kids[i]) (by simp only [plain, List.all_cons, List.all_nil, sl_pl (f := dI) (fun _ _ => rfl), int_pl, dN_pl, dG_pl, Bool.and_true]) 51
              rw [← hin, hih] at hv2
              rw [hin] at hv2
              simp only [sl, List.map_append, List.map_cons, List.map_nil] at hwi hv2
              obtain ⟨o5, n5, nx5, lv5, ha5, hap5⟩ := (ha.out.keep hkp).appE (P := Try.prog) (t := 44) und_backstepref06_Fault inf_backstepref06_Fault_eq inf_backstepref06_Fault_size (by omega) (by rw [inf_backstepref06_Fault_bytes]; omega) inf_backstepref06_Fault_zc ((visF p pr t.kids[i] (path ++ [(i : Int)]) (innerV t i vs)).map dFt) (by simp; omega)
              rw [hin] at hap5 ha5
              refine X_rg fun R hR => ?_
              simp only [EVP, nat_lt, nat_0, nat_to, aops, astep, awant, aeff, aop, mkD, ev, St.put, pcall, ia_slice, List.map_cons, List.map_nil, List.getElem?_cons_succ, List.getElem?_cons_zero, Option.getD_some, Option.map_some, if_true, List.set_cons_succ, List.set_cons_zero, List.length_map, List.length_cons, List.length_nil, List.drop_succ_cons, List.drop_zero, List.take_succ_cons, List.take_zero, List.cons_append, List.nil_append, Nat.reduceAdd, Nat.reduceLeDiff, Nat.zero_add, Bool.false_eq_true, if_false, and_self, reduceCtorEq, Option.isSome_some, ty_s_api_Node, ty_api_Node, ty_api_Program, und_api_Node, siz_api_Node, inf_api_Node_eq, any51, any66, dN_cells, dN_isAgg, sl, dG_agg, hwi, hv2, hap5, ek, hlt, hn1]
              with_reducible refine hR _ ?_
              clear hR R
              show X _ _ _ _
              have hbig : i < 9223372036854775807 := by have := Tr.length_kids t; omega
              refine X_rg fun R hR => ?_
              simp only [inr_i64, Int.reduceLE, Int.reduceNeg, aops, astep, awant, aeff, aop, abin, aint, ev, ofValue, St.put, List.getElem?_cons_succ, List.getElem?_cons_zero, Option.getD_some, Option.map_some, if_true, List.set_cons_succ, List.set_cons_zero, and_self, nat_succ hbig]
              with_reducible refine hR _ ?_
              clear hR R
              show ∃ m, m < _ ∧ _
              have c_call : (t.kind = 50 ∨ t.kind = 51) = False := by first | (simp_all; done) | (simp [*]; done)
              skip
              exact ⟨t.kids.length - (i + 1), by omega, i + 1, o5, n5, L ++ visF p pr t.kids[i] (path ++ [(i : Int)]) (innerV t i vs), _, _, nx5, lv5, rfl, rfl, by omega, Lib.hid ha5, Lib.hid (by rw [hM.out, hin]; simp), Lib.hid (by have h1 := hL.out; simp only [c_call, if_false] at h1 ⊢; rw [visL_drop p pr t path vs t.kids i hlt, ← List.append_assoc] at h1; exact h1), by rw [List.length_append]; omega⟩
            · intro b28
              have c28 := b28
              try simp only [ne_eq, beq_eq_false_iff_ne] at c28
              refine X_skip ?_
              show X _ _ _ _
              have hwi := with_fn path (i : Int) (by omega)
              have ek : (t.kids.map dN)[i]? = some (dN t.kids[i]) := by simp [hlt]
              have hil := innerV_len t (i : Int) vs
              have hih := ih t.kids[i] (Tr.size_kid hlt) (innerV t i vs) (path ++ [(i : Int)]) (by have := Tr.size_kid hlt; simp; omega) (by have := Tr.size_kid hlt; omega)
              have hvl5 := visF_len p pr t.kids[i] (path ++ [(i : Int)]) (innerV t i vs)
              have hin : innerV t i vs = vs := inner_n (by first | (left; assumption) | (right; assumption) | simp_all)
              rw [hin] at hih
              have hv2 := hih
              simp only [sl, List.map_append, List.map_cons, List.map_nil] at hwi hv2
              obtain ⟨o5, n5, nx5, lv5, ha5, hap5⟩ := ha.out.appE (P := Try.prog) (t := 44) und_backstepref06_Fault inf_backstepref06_Fault_eq inf_backstepref06_Fault_size (by omega) (by rw [inf_backstepref06_Fault_bytes]; omega) inf_backstepref06_Fault_zc ((visF p pr t.kids[i] (path ++ [(i : Int)]) (innerV t i vs)).map dFt) (by simp; omega)
              rw [hin] at hap5 ha5
              refine X_rg fun R hR => ?_
              simp only [EVP, nat_lt, nat_0, nat_to, aops, astep, awant, aeff, aop, mkD, ev, St.put, pcall, ia_slice, List.map_cons, List.map_nil, List.getElem?_cons_succ, List.getElem?_cons_zero, Option.getD_some, Option.map_some, if_true, List.set_cons_succ, List.set_cons_zero, List.length_map, List.length_cons, List.length_nil, List.drop_succ_cons, List.drop_zero, List.take_succ_cons, List.take_zero, List.cons_append, List.nil_append, Nat.reduceAdd, Nat.reduceLeDiff, Nat.zero_add, Bool.false_eq_true, if_false, and_self, reduceCtorEq, Option.isSome_some, ty_s_api_Node, ty_api_Node, ty_api_Program, und_api_Node, siz_api_Node, inf_api_Node_eq, any51, any66, dN_cells, dN_isAgg, sl, dG_agg, b28, hwi, hv2, hap5, ek, hlt, hn1]
              with_reducible refine hR _ ?_
              clear hR R
              show X _ _ _ _
              have hbig : i < 9223372036854775807 := by have := Tr.length_kids t; omega
              refine X_rg fun R hR => ?_
              simp only [inr_i64, Int.reduceLE, Int.reduceNeg, aops, astep, awant, aeff, aop, abin, aint, ev, ofValue, St.put, List.getElem?_cons_succ, List.getElem?_cons_zero, Option.getD_some, Option.map_some, if_true, List.set_cons_succ, List.set_cons_zero, and_self, nat_succ hbig]
              with_reducible refine hR _ ?_
              clear hR R
              show ∃ m, m < _ ∧ _
              have c_call : (t.kind = 50 ∨ t.kind = 51) = False := by first | (simp_all; done) | (simp [*]; done)
              skip
              exact ⟨t.kids.length - (i + 1), by omega, i + 1, o5, n5, L ++ visF p pr t.kids[i] (path ++ [(i : Int)]) (innerV t i vs), _, _, nx5, lv5, rfl, rfl, by omega, Lib.hid ha5, Lib.hid (by rw [hM.out, hin]; simp), Lib.hid (by have h1 := hL.out; simp only [c_call, if_false] at h1 ⊢; rw [visL_drop p pr t path vs t.kids i hlt, ← List.append_assoc] at h1; exact h1), by rw [List.length_append]; omega⟩
          · intro b29
            have c29 := b29
            try simp only [Bool.not_eq_true', Bool.not_eq_false', decide_eq_true_eq, decide_eq_false_iff_not, beq_iff_eq, Int.not_lt, Int.not_le, ge_iff_le, gt_iff_lt, bne_iff_ne, ne_eq, bne_eq_false_iff_eq, beq_eq_false_iff_ne, Bool.and_eq_true, Bool.or_eq_false_iff] at c29
            refine Y_end fun R hR => ?_
            simp only [EVP, aops, astep, awant, aeff, aop, abin, mkD, ev, ofValue, St.put, pcall, List.map_cons, List.map_nil, List.getElem?_cons_succ, List.getElem?_cons_zero, Option.getD_some, Option.map_some, Option.map_none, Option.bind_some, if_true, List.set_cons_succ, List.set_cons_zero, List.length_cons, List.length_nil, List.drop_zero, List.take_succ_cons, List.take_zero, List.cons_append, List.nil_append, Nat.reduceAdd, Nat.reduceLeDiff, Nat.zero_add, Bool.false_eq_true, if_false, bq_ft, ty_api_Node, any56, dN_agg, b29]
            with_reducible refine hR _ ?_
            clear hR R
            show X _ _ _ _
            refine X_false (by simp only [ev, List.getElem?_cons_succ, List.getElem?_cons_zero, Option.getD_some]) ?_
            refine X_skip ?_
            show X _ _ _ _
            have hwi := with_fn path (i : Int) (by omega)
            have ek : (t.kids.map dN)[i]? = some (dN t.kids[i]) := by simp [hlt]
            have hil := innerV_len t (i : Int) vs
            have hih := ih t.kids[i] (Tr.size_kid hlt) (innerV t i vs) (path ++ [(i : Int)]) (by have := Tr.size_kid hlt; simp; omega) (by have := Tr.size_kid hlt; omega)
            have hvl5 := visF_len p pr t.kids[i] (path ++ [(i : Int)]) (innerV t i vs)
            have hin : innerV t i vs = vs := inner_n (by first | (left; assumption) | (right; assumption) | simp_all)
            rw [hin] at hih
            have hv2 := hih
            simp only [sl, List.map_append, List.map_cons, List.map_nil] at hwi hv2
            obtain ⟨o5, n5, nx5, lv5, ha5, hap5⟩ := ha.out.appE (P := Try.prog) (t := 44) und_backstepref06_Fault inf_backstepref06_Fault_eq inf_backstepref06_Fault_size (by omega) (by rw [inf_backstepref06_Fault_bytes]; omega) inf_backstepref06_Fault_zc ((visF p pr t.kids[i] (path ++ [(i : Int)]) (innerV t i vs)).map dFt) (by simp; omega)
            rw [hin] at hap5 ha5
            refine X_rg fun R hR => ?_
            simp only [EVP, nat_lt, nat_0, nat_to, aops, astep, awant, aeff, aop, mkD, ev, St.put, pcall, ia_slice, List.map_cons, List.map_nil, List.getElem?_cons_succ, List.getElem?_cons_zero, Option.getD_some, Option.map_some, if_true, List.set_cons_succ, List.set_cons_zero, List.length_map, List.length_cons, List.length_nil, List.drop_succ_cons, List.drop_zero, List.take_succ_cons, List.take_zero, List.cons_append, List.nil_append, Nat.reduceAdd, Nat.reduceLeDiff, Nat.zero_add, Bool.false_eq_true, if_false, and_self, reduceCtorEq, Option.isSome_some, ty_s_api_Node, ty_api_Node, ty_api_Program, und_api_Node, siz_api_Node, inf_api_Node_eq, any51, any66, dN_cells, dN_isAgg, sl, dG_agg, hwi, hv2, hap5, ek, hlt, hn1]
            with_reducible refine hR _ ?_
            clear hR R
            show X _ _ _ _
            have hbig : i < 9223372036854775807 := by have := Tr.length_kids t; omega
            refine X_rg fun R hR => ?_
            simp only [inr_i64, Int.reduceLE, Int.reduceNeg, aops, astep, awant, aeff, aop, abin, aint, ev, ofValue, St.put, List.getElem?_cons_succ, List.getElem?_cons_zero, Option.getD_some, Option.map_some, if_true, List.set_cons_succ, List.set_cons_zero, and_self, nat_succ hbig]
            with_reducible refine hR _ ?_
            clear hR R
            show ∃ m, m < _ ∧ _
            have c_call : (t.kind = 50 ∨ t.kind = 51) = False := by first | (simp_all; done) | (simp [*]; done)
            skip
            exact ⟨t.kids.length - (i + 1), by omega, i + 1, o5, n5, L ++ visF p pr t.kids[i] (path ++ [(i : Int)]) (innerV t i vs), _, _, nx5, lv5, rfl, rfl, by omega, Lib.hid ha5, Lib.hid (by rw [hM.out, hin]; simp), Lib.hid (by have h1 := hL.out; simp only [c_call, if_false] at h1 ⊢; rw [visL_drop p pr t path vs t.kids i hlt, ← List.append_assoc] at h1; exact h1), by rw [List.length_append]; omega⟩
    · intro b30
      have c30 := b30
      try simp only [decide_eq_false_iff_not] at c30
      refine X_exit ?_
      show X _ _ _ _
      refine X_seq ?_
      refine X_rg fun R hR => ?_
      simp only [aops, astep, awant, aeff, aop, ev, St.put, List.getElem?_cons_succ, List.getElem?_cons_zero, Option.getD_some, Option.map_some, if_true, List.set_cons_succ, List.set_cons_zero, b30]
      with_reducible refine hR _ ?_
      clear hR R
      show X _ _ _ _
      refine X_ret ?_
      show ∃ d, resD _ _ _ = some d ∧ _ ∧ _
      simp only [resD, resAll, resOne, resTup, Try.results51, EVP, List.getElem?_cons_succ, List.getElem?_cons_zero, D.good, if_true, Option.map_some]
      have hT : L = visF p pr t path vs := by have h1 := hL.out; rw [List.drop_of_length_le (by omega)] at h1; simpa only [argsF, visL, ite_self, List.append_nil] using h1
      have hst := ha.out.a.strip
      exact ⟨_, rfl, by rw [hM.out]; simp only [D.under, unders_id dFt_under], by rw [hst, hM.out, List.map_map, show (D.strip ∘ dFt) = dFt from funext dFt_strip, hT]; rfl⟩
theorem rfind_take (l : List Vd) (i : Nat) (s : ByteArray) (hl : l.length ≤ 1000000) : fn EV 14 [.slice .imm (if (l.map dV).isEmpty = true then 0 else 3) ((l.map dV).take i), .str s] = some (.tup [dV (findN (l.take i) s (l.take i).length).1, .bool (findN (l.take i) s (l.take i).length).2]) := by
  have hpl : ∀ n (c : List Vd), plain [.slice .imm n (c.map dV), .str s] = true := by
    intro n c
    have h0 : D.under 0 (.slice .imm n (c.map dV)) = true := by simp only [D.under, unders_id (f := dV) (fun _ _ => rfl)]
    simp only [plain, List.all_cons, List.all_nil, h0, str_pl, Bool.and_true, Bool.true_and]; rfl
  rw [← List.map_take, fn_strip (args' := [sl 3 ((l.take i).map dV), .str s]) (hpl _ _) (hpl _ _)]
  · exact rfind_fn _ s (by rw [List.length_take]; omega)
  · simp only [List.map_cons, List.map_nil, D.strip, strips_id (f := dV) (fun _ => rfl), sl]
    congr 2
    cases l with
    | nil => simp
    | cons a r => cases i <;> simp
theorem fresh_y {l : List Vd} {s : ByteArray} (h : (findN l s l.length).2 = true) : freshE l s = 22 := by unfold freshE; rw [if_pos h]
theorem fresh_n {l : List Vd} {s : ByteArray} (h : (findN l s l.length).2 = false) : freshE l s = 0 := by unfold freshE; rw [if_neg (by rw [h]; simp)]
theorem node_nil (p : Pg) (pr : Int) (hp : p.procs.length ≤ 1000000) (t : Tr) (vs : List Vd) (h1 : t.size ≤ 1000000) (h2 : vs.length + t.size ≤ 1000000) : fn EV 51 [dG p, sl 3 (vs.map dV), .int .i64 pr, .slice .nil 0 [], dN t] = some (sl 4 ((visF p pr t [] vs).map dFt)) := by
  rw [fn_strip (args' := [dG p, sl 3 (vs.map dV), .int .i64 pr, sl 1 (([] : List Int).map dI), dN t])]
  · exact node_fn p pr hp t.size t (Nat.le_refl _) vs [] (by simp; omega) h2
  · simp only [plain, List.all_cons, List.all_nil, sl_pl (f := dV) (fun _ _ => rfl), int_pl, dN_pl, dG_pl, Bool.and_true, Bool.true_and]; rfl
  · simp only [plain, List.all_cons, List.all_nil, sl_pl (f := dV) (fun _ _ => rfl), int_pl, dN_pl, dG_pl, Bool.and_true, Bool.true_and]; rfl
  · rfl
/-- data that will read as these faults -/
structure Lis (M : List D) (L : List Ft) : Prop where
  s : M.map D.strip = L.map dFt
  u : D.unders 0 M = true
theorem Lis.len {M : List D} {L : List Ft} (h : Lis M L) : M.length = L.length := by have := congrArg List.length h.s; simpa using this
theorem Lis.nil : Lis [] [] := ⟨rfl, rfl⟩
theorem Lis.app {M M' : List D} {L L' : List Ft} (h : Lis M L) (h' : Lis M' L') : Lis (M ++ M') (L ++ L') := by
  refine ⟨by rw [List.map_append, List.map_append, h.s, h'.s], ?_⟩
  have h1 := h.u; have h2 := h'.u
  rw [D.unders_all] at h1 h2 ⊢
  rw [List.all_append, h1, h2]; rfl
theorem Lis.of (L : List Ft) : Lis (L.map dFt) L := ⟨by rw [List.map_map]; exact List.map_congr_left fun x _ => dFt_strip x, unders_id dFt_under 0 L⟩
theorem Lis.one {d : D} {f : Ft} (h : d.strip = dFt f) (h' : d.under 0 = true) : Lis [d] [f] := ⟨by simp [h], by simp only [D.unders, h', Bool.and_true]⟩
set_option maxRecDepth 100000 in
set_option maxHeartbeats 4000000 in
theorem rcheck_fn (p : Pg) (hv : validB p = true) : fn EV 21 [dG p] = some (sl 4 ((checkF p).map dFt)) := by
  obtain ⟨bv, bp, bq, bm, _⟩ := valid_bd hv
  refine fn_Xs rfl Try.func21 rfl (by simp only [plain, List.all_cons, List.all_nil, dG_pl, Bool.and_true]) (rfl) ?_
  simp only [List.map_cons, List.map_nil, dG_strip]
  simp only [enterSt, Try.ntmps21, List.length_cons, List.length_nil, Nat.reduceAdd, Nat.reduceSub, List.replicate_succ, List.replicate_zero, List.cons_append, List.nil_append]
  refine X_seq ?_
  refine X_rg fun R hR => ?_
  simp only [aops, astep, awant, aeff, aop, ev, ofValue, St.put, List.getElem?_cons_zero, Option.getD_some, Option.map_some, if_true, List.set_cons_succ, List.set_cons_zero, List.length_nil, List.nil_append, dG_cells, dG_good]
  with_reducible refine hR _ ?_
  clear hR R
  show X _ _ _ _
  refine X_seq ?_
  refine X_rg fun R hR => ?_
  simp only [aops, astep, awant, aeff, aop, ev, ofValue, St.put, Option.getD_some, Option.map_some, if_true, List.set_cons_succ, List.set_cons_zero]
  with_reducible refine hR _ ?_
  clear hR R
  show X _ _ _ _
  refine X_seq ?_
  refine X_seq ?_
  refine X_rg fun R hR => ?_
  simp only [inr_i64, Int.reduceLE, Int.reduceNeg, aops, astep, awant, aeff, aop, ev, ofValue, St.put, Option.getD_some, Option.map_some, if_true, List.set_cons_succ, List.set_cons_zero, and_self]
  with_reducible refine hR _ ?_
  clear hR R
  show X _ _ _ _
  refine X_block ?_
  refine X_loop (fun m σ => ∃ (i : Nat) (o : Own) (n : Nat) (L : List Ft) (M : List D) (r : List (List D)) (nx : Nat) (lv : List Nat), σ = ⟨[slotOf σ 0, .ptr 0 0, slotOf σ 2, .slice o n M, .int .i64 i, slotOf σ 5, slotOf σ 6, slotOf σ 7, slotOf σ 8, slotOf σ 9, slotOf σ 10, slotOf σ 11, slotOf σ 12, slotOf σ 13, slotOf σ 14, slotOf σ 15, slotOf σ 16, slotOf σ 17, slotOf σ 18, slotOf σ 19, slotOf σ 20, slotOf σ 21, slotOf σ 22, slotOf σ 23, slotOf σ 24, slotOf σ 25, slotOf σ 26, slotOf σ 27, slotOf σ 28, slotOf σ 29, slotOf σ 30, slotOf σ 31, slotOf σ 32, slotOf σ 33, slotOf σ 34, slotOf σ 35, slotOf σ 36, slotOf σ 37, slotOf σ 38, slotOf σ 39, slotOf σ 40, slotOf σ 41, slotOf σ 42, slotOf σ 43, slotOf σ 44, slotOf σ 45, slotOf σ 46, slotOf σ 47, slotOf σ 48, slotOf σ 49, slotOf σ 50, slotOf σ 51, slotOf σ 52, slotOf σ 53, slotOf σ 54, slotOf σ 55, slotOf σ 56, slotOf σ 57, slotOf σ 58, slotOf σ 59, slotOf σ 60, slotOf σ 61, slotOf σ 62, slotOf σ 63, slotOf σ 64, slotOf σ 65, slotOf σ 66, slotOf σ 67, slotOf σ 68, slotOf σ 69, slotOf σ 70, slotOf σ 71, slotOf σ 72, slotOf σ 73, slotOf σ 74, slotOf σ 75, slotOf σ 76, slotOf σ 77, slotOf σ 78, slotOf σ 79, slotOf σ 80, slotOf σ 81, slotOf σ 82, slotOf σ 83, slotOf σ 84, slotOf σ 85, slotOf σ 86, slotOf σ 87, slotOf σ 88, slotOf σ 89, slotOf σ 90, slotOf σ 91, slotOf σ 92, slotOf σ 93, slotOf σ 94, slotOf σ 95, slotOf σ 96, slotOf σ 97, slotOf σ 98, slotOf σ 99, slotOf σ 100, slotOf σ 101, slotOf σ 102, slotOf σ 103, slotOf σ 104, slotOf σ 105, slotOf σ 106, slotOf σ 107, slotOf σ 108, slotOf σ 109, slotOf σ 110, slotOf σ 111, slotOf σ 112, slotOf σ 113, slotOf σ 114, slotOf σ 115, slotOf σ 116, slotOf σ 117, slotOf σ 118, slotOf σ 119, slotOf σ 120, slotOf σ 121, slotOf σ 122, slotOf σ 123], [.slice .imm (if (p.vars.map dV).isEmpty = true then 0 else 3) (p.vars.map dV), .slice .imm (if (p.procs.map dP).isEmpty = true then 0 else 6) (p.procs.map dP), .int .u8 p.main.kind, .int .i64 p.main.num, .str p.main.name, .slice .imm (if (p.main.kids.map dN).isEmpty = true then 0 else 4) (p.main.kids.map dN)] :: r, nx, lv⟩ ∧ m = p.vars.length - i ∧ i ≤ p.vars.length ∧ Hid (AccB 81 4 o n M nx lv) ∧ Hid (Lis M L) ∧ Hid (L ++ vrF (-1) true p.vars (p.vars.drop i) i = vrF (-1) true p.vars p.vars 0) ∧ L.length ≤ i) ?_ (p.vars.length) _ ?_
  rotate_left
  · exact ⟨0, .nil, 0, [], [], [], 0, [], rfl, rfl, Nat.zero_le _, Lib.hid (.nil _ _ _ _), Lib.hid .nil, Lib.hid rfl, Nat.le_refl _⟩
  rintro m σ ⟨i, o, n, L, M, r, nx, lv, hσ, rfl, hi, ha, hM, hL, hl⟩
  generalize slotOf σ = x at hσ
  subst hσ
  have hml := hM.out.len
  have hn3 : ∀ j, j < p.vars.length → ((if (p.vars.map dV).isEmpty = true then 0 else 3) = 3) = True := fun j h => eq_true (sl_n (j := j) (by simpa using h))
  refine X_seq ?_
  refine X_seq ?_
  refine X_rg fun R hR => ?_
  simp only [EVP, nat_lt, aops, astep, awant, aeff, aop, abin, aint, mkD, ev, St.put, ia_slice, List.getElem?_cons_succ, List.getElem?_cons_zero, Option.getD_some, Option.map_some, if_true, List.set_cons_succ, List.set_cons_zero, List.length_map, List.length_cons, List.length_nil, List.drop_zero, List.take_succ_cons, List.take_zero, Nat.reduceAdd, Nat.reduceLeDiff, Nat.zero_add, Nat.add_zero, Bool.false_eq_true, if_false, reduceCtorEq, ty_s_api_VarDecl, ty_api_Program, und_api_VarDecl]
  with_reducible refine hR _ ?_
  clear hR R
  show X _ _ _ _
  refine X_ite (by simp only [ev, List.getElem?_cons_succ, List.getElem?_cons_zero, Option.getD_some]; exact rfl) ?_ ?_
  · intro b1
    have c1 := b1
    try simp only [decide_eq_true_eq] at c1
    refine X_skip ?_
    show X _ _ _ _
    refine X_seq ?_
    refine X_block ?_
    refine X_seq ?_
    have hlt : i < p.vars.length := by first | assumption | omega
    have hn1 := hn3 i hlt
    have e1 : (p.vars.map dV)[i]? = some (.agg [.str p.vars[i].name, .int .u8 p.vars[i].kind, .int .i64 p.vars[i].len]) := by simp [hlt, dV]
    have hfr := rfind_take p.vars i p.vars[i].name (by omega)
    have hle : ((i : Int) ≤ (p.vars.length : Int)) = True := by simp; omega
    refine X_rg fun R hR => ?_
    simp only [EVP, app_get0, app_set0, nat_lt, nat_0, nat_to, aops, astep, awant, aeff, aop, mkD, idx, aslice, astore, ev, St.put, pcall, ia_str, cl_str, ia_slice, List.map_cons, List.map_nil, List.getElem?_cons_succ, List.getElem?_cons_zero, Option.getD_some, Option.map_some, Option.map_none, Option.bind_some, if_true, List.set_cons_succ, List.set_cons_zero, List.length_map, List.length_cons, List.length_nil, List.drop_succ_cons, List.drop_zero, List.take_succ_cons, List.take_zero, List.cons_append, List.nil_append, Nat.reduceAdd, Nat.reduceLeDiff, Nat.zero_add, Nat.add_zero, Bool.false_eq_true, if_false, and_self, reduceCtorEq, decide_true, Option.isSome_some, ty_string, ty_s_api_VarDecl, ty_api_VarDecl, ty_api_Program, und_api_VarDecl, siz_api_VarDecl, inf_api_VarDecl_eq, any14, dV_cells, dV_good, hlt, hn1, e1, hfr, hle, true_or, Nat.sub_zero, Nat.zero_le, List.drop_zero, nat_le]
    with_reducible refine hR _ ?_
    clear hR R
    show X _ _ _ _
    refine X_seq ?_
    refine X_rg fun R hR => ?_
    simp only [aops, astep, awant, aeff, aop, ev, St.put, List.getElem?_cons_succ, List.getElem?_cons_zero, Option.getD_some, Option.map_some, if_true, List.set_cons_succ, List.set_cons_zero]
    with_reducible refine hR _ ?_
    clear hR R
    show X _ _ _ _
    refine X_ite (by simp only [ev, List.getElem?_cons_succ, List.getElem?_cons_zero, Option.getD_some]; exact rfl) ?_ ?_
    · intro b2
      have c2 := b2
      try simp only [Bool.not_eq_true', Bool.not_eq_false', decide_eq_true_eq, decide_eq_false_iff_not, beq_iff_eq, Int.not_lt, Int.not_le, ge_iff_le, gt_iff_lt, bne_iff_ne, ne_eq, bne_eq_false_iff_eq, beq_eq_false_iff_ne, Bool.and_eq_true, Bool.or_eq_false_iff] at c2
      have hacc0 : AccB 81 4 o n M (nx + 1) (nx :: lv) := ha.out.keep ⟨by omega, fun s _ h => List.mem_cons_of_mem _ h⟩
      obtain ⟨lv1, hacc, hap⟩ := (hacc0).app1 (P := Try.prog) (t := 44) und_backstepref06_Fault inf_backstepref06_Fault_eq inf_backstepref06_Fault_size (by omega) (by rw [inf_backstepref06_Fault_bytes]; omega) inf_backstepref06_Fault_zc (.agg [.int .i64 (-1), .slice (.own nx 3) 1 [.int .i64 i], .int .i64 22, .str p.vars[i].name]) (by omega)
      refine X_rg fun R hR => ?_
      simp only [EVP, inr_i64, Int.reduceLE, Int.reduceNeg, nat_lt, nat_0, nat_to, aops, astep, awant, aeff, aop, mkD, afill, abuild, ev, ofValue, St.put, gd_int, cl_int, gd_str, ia_str, cl_str, gd_agg, cl_agg, gd_slice, ia_slice, cl_slice, List.map_cons, List.map_nil, List.getElem?_cons_succ, List.getElem?_cons_zero, Option.getD_some, Option.map_some, if_true, List.set_cons_succ, List.set_cons_zero, List.length_map, List.length_cons, List.length_nil, List.drop_succ_cons, List.drop_zero, List.take_succ_cons, List.take_zero, List.cons_append, List.nil_append, Nat.reduceAdd, Nat.reduceLeDiff, Nat.reduceLT, Nat.zero_add, Nat.add_zero, Bool.and_true, Bool.false_eq_true, if_false, and_self, reduceCtorEq, List.all_cons, List.all_nil, beq_self_eq_true, Option.isSome_some, Nat.reduceMul, rng_1, ty_string, ty_s_api_VarDecl, ty_api_VarDecl, ty_api_Program, und_int, inf_int_eq, inf_int_size, inf_int_zero, und_api_VarDecl, siz_api_VarDecl, inf_api_VarDecl_eq, ty_backstepref06_Fault, st_backstepref06_Fault, sta_backstepref06_Fault, und_backstepref06_Fault, inf_backstepref06_Fault_eq, inf_backstepref06_Fault_size, inf_backstepref06_Fault_zero, b2, hlt, hn1, e1, hap]
      with_reducible refine hR _ ?_
      clear hR R
      show X _ _ _ _
      have hbig : i < 9223372036854775807 := by omega
      refine X_rg fun R hR => ?_
      simp only [inr_i64, Int.reduceLE, Int.reduceNeg, aops, astep, awant, aeff, aop, abin, aint, ev, ofValue, St.put, List.getElem?_cons_succ, List.getElem?_cons_zero, Option.getD_some, Option.map_some, if_true, List.set_cons_succ, List.set_cons_zero, and_self, nat_succ hbig]
      with_reducible refine hR _ ?_
      clear hR R
      show ∃ m, m < _ ∧ _
      exact ⟨p.vars.length - (i + 1), by omega, i + 1, _, _, L ++ [⟨-1, [(i : Int)], 22, p.vars[i].name⟩], _, _, _, _, rfl, rfl, by omega, Lib.hid hacc, Lib.hid (hM.out.app (.one (f := ⟨-1, [(i : Int)], 22, p.vars[i].name⟩) rfl rfl)), Lib.hid (by rw [← hL.out, vrF_drop (-1) true p.vars p.vars i hlt, fresh_y b2, List.append_assoc]; rfl), by rw [List.length_append]; simp; omega⟩
    · intro b3
      have c3 := b3
      try simp only [Bool.not_eq_true', Bool.not_eq_false', decide_eq_true_eq, decide_eq_false_iff_not, beq_iff_eq, Int.not_lt, Int.not_le, ge_iff_le, gt_iff_lt, bne_iff_ne, ne_eq, bne_eq_false_iff_eq, beq_eq_false_iff_ne, Bool.and_eq_true, Bool.or_eq_false_iff] at c3
      refine X_skip ?_
      show X _ _ _ _
      have hbig : i < 9223372036854775807 := by omega
      refine X_rg fun R hR => ?_
      simp only [inr_i64, Int.reduceLE, Int.reduceNeg, aops, astep, awant, aeff, aop, abin, aint, ev, ofValue, St.put, List.getElem?_cons_succ, List.getElem?_cons_zero, Option.getD_some, Option.map_some, if_true, List.set_cons_succ, List.set_cons_zero, and_self, b3, nat_succ hbig]
      with_reducible refine hR _ ?_
      clear hR R
      show ∃ m, m < _ ∧ _
      exact ⟨p.vars.length - (i + 1), by omega, i + 1, o, n, L, M, _, nx, lv, rfl, rfl, by omega, ha, hM, Lib.hid (by rw [← hL.out, vrF_drop (-1) true p.vars p.vars i hlt, fresh_n b3]; rfl), by omega⟩
  · intro b4
    have c4 := b4
    try simp only [decide_eq_false_iff_not] at c4
    refine X_exit ?_
    show X _ _ _ _
    refine X_seq ?_
    refine X_seq ?_
    refine X_rg fun R hR => ?_
    simp only [inr_i64, Int.reduceLE, Int.reduceNeg, aops, astep, awant, aeff, aop, ev, ofValue, St.put, Option.getD_some, Option.map_some, if_true, List.set_cons_succ, List.set_cons_zero, and_self, b4]
    with_reducible refine hR _ ?_
    clear hR R
    show X _ _ _ _
    refine X_block ?_
    refine X_loop (fun m σ => ∃ (i : Nat) (o : Own) (n : Nat) (L : List Ft) (M : List D) (r : List (List D)) (nx : Nat) (lv : List Nat), σ = ⟨[slotOf σ 0, .ptr 0 0, slotOf σ 2, .slice o n M, slotOf σ 4, slotOf σ 5, slotOf σ 6, .int .i64 i, slotOf σ 8, slotOf σ 9, slotOf σ 10, slotOf σ 11, slotOf σ 12, slotOf σ 13, slotOf σ 14, slotOf σ 15, slotOf σ 16, slotOf σ 17, slotOf σ 18, slotOf σ 19, slotOf σ 20, slotOf σ 21, slotOf σ 22, slotOf σ 23, slotOf σ 24, slotOf σ 25, slotOf σ 26, slotOf σ 27, slotOf σ 28, slotOf σ 29, slotOf σ 30, slotOf σ 31, slotOf σ 32, slotOf σ 33, slotOf σ 34, slotOf σ 35, slotOf σ 36, slotOf σ 37, slotOf σ 38, slotOf σ 39, slotOf σ 40, slotOf σ 41, slotOf σ 42, slotOf σ 43, slotOf σ 44, slotOf σ 45, slotOf σ 46, slotOf σ 47, slotOf σ 48, slotOf σ 49, slotOf σ 50, slotOf σ 51, slotOf σ 52, slotOf σ 53, slotOf σ 54, slotOf σ 55, slotOf σ 56, slotOf σ 57, slotOf σ 58, slotOf σ 59, slotOf σ 60, slotOf σ 61, slotOf σ 62, slotOf σ 63, slotOf σ 64, slotOf σ 65, slotOf σ 66, slotOf σ 67, slotOf σ 68, slotOf σ 69, slotOf σ 70, slotOf σ 71, slotOf σ 72, slotOf σ 73, slotOf σ 74, slotOf σ 75, slotOf σ 76, slotOf σ 77, slotOf σ 78, slotOf σ 79, slotOf σ 80, slotOf σ 81, slotOf σ 82, slotOf σ 83, slotOf σ 84, slotOf σ 85, slotOf σ 86, slotOf σ 87, slotOf σ 88, slotOf σ 89, slotOf σ 90, slotOf σ 91, slotOf σ 92, slotOf σ 93, slotOf σ 94, slotOf σ 95, slotOf σ 96, slotOf σ 97, slotOf σ 98, slotOf σ 99, slotOf σ 100, slotOf σ 101, slotOf σ 102, slotOf σ 103, slotOf σ 104, slotOf σ 105, slotOf σ 106, slotOf σ 107, slotOf σ 108, slotOf σ 109, slotOf σ 110, slotOf σ 111, slotOf σ 112, slotOf σ 113, slotOf σ 114, slotOf σ 115, slotOf σ 116, slotOf σ 117, slotOf σ 118, slotOf σ 119, slotOf σ 120, slotOf σ 121, slotOf σ 122, slotOf σ 123], [.slice .imm (if (p.vars.map dV).isEmpty = true then 0 else 3) (p.vars.map dV), .slice .imm (if (p.procs.map dP).isEmpty = true then 0 else 6) (p.procs.map dP), .int .u8 p.main.kind, .int .i64 p.main.num, .str p.main.name, .slice .imm (if (p.main.kids.map dN).isEmpty = true then 0 else 4) (p.main.kids.map dN)] :: r, nx, lv⟩ ∧ m = p.procs.length - i ∧ i ≤ p.procs.length ∧ Hid (AccB 81 4 o n M nx lv) ∧ Hid (Lis M L) ∧ Hid (L ++ procsF p (p.procs.drop i) i = vrF (-1) true p.vars p.vars 0 ++ procsF p p.procs 0) ∧ L.length ≤ 32 + 2009 * i) ?_ (p.procs.length) _ ?_
    rotate_left
    · exact ⟨0, o, n, L, M, r, nx, lv, rfl, rfl, Nat.zero_le _, ha, hM, Lib.hid (by have := hL.out; rw [List.drop_of_length_le (by omega)] at this; simp only [vrF, List.append_nil] at this; rw [this]; rfl), by omega⟩
    rintro m σ ⟨i, o, n, L, M, r, nx, lv, hσ, rfl, hi, ha, hM, hL, hl⟩
    generalize slotOf σ = x at hσ
    subst hσ
    have hml := hM.out.len
    have hn6 : ∀ j, j < p.procs.length → ((if (p.procs.map dP).isEmpty = true then 0 else 6) = 6) = True := fun j h => eq_true (sl_n (j := j) (by simpa using h))
    refine X_seq ?_
    refine X_seq ?_
    refine X_rg fun R hR => ?_
    simp only [EVP, nat_lt, aops, astep, awant, aeff, aop, abin, aint, mkD, ev, St.put, ia_slice, List.getElem?_cons_succ, List.getElem?_cons_zero, Option.getD_some, Option.map_some, if_true, List.set_cons_succ, List.set_cons_zero, List.length_map, List.length_cons, List.length_nil, List.drop_succ_cons, List.drop_zero, List.take_succ_cons, List.take_zero, Nat.reduceAdd, Nat.reduceLeDiff, Nat.zero_add, Bool.false_eq_true, if_false, reduceCtorEq, ty_s_api_Proc, ty_api_Program, und_api_Proc]
    with_reducible refine hR _ ?_
    clear hR R
    show X _ _ _ _
    refine X_ite (by simp only [ev, List.getElem?_cons_succ, List.getElem?_cons_zero, Option.getD_some]; exact rfl) ?_ ?_
    · intro b5
      have c5 := b5
      try simp only [decide_eq_true_eq] at c5
      refine X_skip ?_
      show X _ _ _ _
      refine X_seq ?_
      refine X_block ?_
      refine X_seq ?_
      have hlt : i < p.procs.length := by first | assumption | omega
      have hn1 := hn6 i hlt
      have e1 : (p.procs.map dP)[i]? = some (dP p.procs[i]) := by simp [hlt]
      obtain ⟨bq1, bq2, _⟩ := bq p.procs[i] (List.getElem_mem hlt)
      refine X_rg fun R hR => ?_
      simp only [EVP, app_get0, app_set0, nat_lt, nat_0, nat_to, aops, astep, awant, aeff, aop, mkD, astore, ev, St.put, gd_agg, ia_agg, cl_agg, ia_slice, List.getElem?_cons_succ, List.getElem?_cons_zero, Option.getD_some, Option.map_some, Option.bind_some, if_true, List.set_cons_succ, List.set_cons_zero, List.length_map, List.length_cons, List.length_nil, List.drop_succ_cons, List.drop_zero, List.take_succ_cons, List.take_zero, List.cons_append, List.nil_append, Nat.reduceAdd, Nat.reduceLeDiff, Nat.zero_add, Bool.false_eq_true, if_false, and_self, reduceCtorEq, decide_true, Option.isSome_some, ty_s_api_Proc, ty_api_Proc, ty_api_Program, und_api_Proc, siz_api_Proc, inf_api_Proc_eq, sl, dP, hlt, hn1, e1]
      with_reducible refine hR _ ?_
      clear hR R
      show X _ _ _ _
      refine X_seq ?_
      refine X_seq ?_
      have hpi := rproc_fn p p.procs[i].name (by omega)
      have hpi2 : idxN p.procs p.procs[i].name 0 p.procs.length = procI p p.procs[i].name := rfl
      rw [hpi2] at hpi
      refine X_rg fun R hR => ?_
      simp only [EVP, app_get0, aops, astep, awant, aeff, aop, abin, aint, mkD, ev, St.put, pcall, ia_str, List.map_cons, List.map_nil, List.getElem?_cons_succ, List.getElem?_cons_zero, Option.getD_some, Option.map_some, if_true, List.set_cons_succ, List.set_cons_zero, List.length_cons, List.length_nil, List.drop_zero, List.take_succ_cons, List.take_zero, List.cons_append, List.nil_append, Nat.reduceAdd, Nat.reduceLeDiff, Nat.zero_add, Nat.add_zero, Bool.false_eq_true, if_false, reduceCtorEq, ty_string, ty_api_Proc, ty_api_Program, any16, dG_agg, hpi]
      with_reducible refine hR _ ?_
      clear hR R
      show X _ _ _ _
      refine X_ite (by simp only [ev, List.getElem?_cons_succ, List.getElem?_cons_zero, Option.getD_some]; exact rfl) ?_ ?_
      · intro b6
        have c6 := b6
        try simp only [decide_eq_true_eq] at c6
        obtain ⟨lv1, hacc, hap⟩ := (ha.out).app1 (P := Try.prog) (t := 44) und_backstepref06_Fault inf_backstepref06_Fault_eq inf_backstepref06_Fault_size (by omega) (by rw [inf_backstepref06_Fault_bytes]; omega) inf_backstepref06_Fault_zc (.agg [.int .i64 i, .slice .nil 0 [], .int .i64 22, .str p.procs[i].name]) (by omega)
        refine X_rg fun R hR => ?_
        simp only [EVP, inr_i64, Int.reduceLE, Int.reduceNeg, app_get0, aops, astep, awant, aeff, aop, mkD, afill, abuild, ev, ofValue, St.put, gd_int, cl_int, gd_str, ia_str, cl_str, gd_agg, cl_agg, List.map_cons, List.map_nil, List.getElem?_cons_succ, List.getElem?_cons_zero, Option.getD_some, Option.map_some, if_true, List.set_cons_succ, List.set_cons_zero, List.length_cons, List.length_nil, List.drop_succ_cons, List.drop_zero, List.take_succ_cons, List.take_zero, List.cons_append, List.nil_append, Nat.reduceAdd, Nat.reduceLeDiff, Nat.reduceLT, Nat.zero_add, Nat.add_zero, Bool.and_true, Bool.false_eq_true, if_false, and_self, reduceCtorEq, List.all_cons, List.all_nil, beq_self_eq_true, Nat.reduceMul, rng_1, ty_string, ty_api_Proc, ty_backstepref06_Fault, st_backstepref06_Fault, sta_backstepref06_Fault, und_backstepref06_Fault, inf_backstepref06_Fault_eq, inf_backstepref06_Fault_size, inf_backstepref06_Fault_zero, b6, hap]
        with_reducible refine hR _ ?_
        clear hR R
        show X _ _ _ _
        refine X_seq ?_
        refine X_seq ?_
        refine X_rg fun R hR => ?_
        simp only [inr_i64, Int.reduceLE, Int.reduceNeg, aops, astep, awant, aeff, aop, ev, ofValue, St.put, Option.getD_some, Option.map_some, if_true, List.set_cons_succ, List.set_cons_zero, and_self]
        with_reducible refine hR _ ?_
        clear hR R
        show X _ _ _ _
        refine X_block ?_
        refine X_loop (fun m σ => ∃ (j : Nat) (o3 : Own) (n3 : Nat) (L3 : List Ft) (M3 : List D) (r3 : List (List D)) (nx3 : Nat) (lv3 : List Nat), σ = ⟨[slotOf σ 0, .ptr 0 0, slotOf σ 2, .slice o3 n3 M3, slotOf σ 4, slotOf σ 5, slotOf σ 6, .int .i64 i, .ptr (r.length + 1) 0, .int .i64 j, slotOf σ 10, slotOf σ 11, slotOf σ 12, slotOf σ 13, slotOf σ 14, slotOf σ 15, slotOf σ 16, slotOf σ 17, slotOf σ 18, slotOf σ 19, slotOf σ 20, slotOf σ 21, slotOf σ 22, slotOf σ 23, slotOf σ 24, slotOf σ 25, slotOf σ 26, slotOf σ 27, slotOf σ 28, slotOf σ 29, slotOf σ 30, slotOf σ 31, slotOf σ 32, slotOf σ 33, slotOf σ 34, slotOf σ 35, slotOf σ 36, slotOf σ 37, slotOf σ 38, slotOf σ 39, slotOf σ 40, slotOf σ 41, slotOf σ 42, slotOf σ 43, slotOf σ 44, slotOf σ 45, slotOf σ 46, slotOf σ 47, slotOf σ 48, slotOf σ 49, slotOf σ 50, slotOf σ 51, slotOf σ 52, slotOf σ 53, slotOf σ 54, slotOf σ 55, slotOf σ 56, slotOf σ 57, slotOf σ 58, slotOf σ 59, slotOf σ 60, slotOf σ 61, slotOf σ 62, slotOf σ 63, slotOf σ 64, slotOf σ 65, slotOf σ 66, slotOf σ 67, slotOf σ 68, slotOf σ 69, slotOf σ 70, slotOf σ 71, slotOf σ 72, slotOf σ 73, slotOf σ 74, slotOf σ 75, slotOf σ 76, slotOf σ 77, slotOf σ 78, slotOf σ 79, slotOf σ 80, slotOf σ 81, slotOf σ 82, slotOf σ 83, slotOf σ 84, slotOf σ 85, slotOf σ 86, slotOf σ 87, slotOf σ 88, slotOf σ 89, slotOf σ 90, slotOf σ 91, slotOf σ 92, slotOf σ 93, slotOf σ 94, slotOf σ 95, slotOf σ 96, slotOf σ 97, slotOf σ 98, slotOf σ 99, slotOf σ 100, slotOf σ 101, slotOf σ 102, slotOf σ 103, slotOf σ 104, slotOf σ 105, slotOf σ 106, slotOf σ 107, slotOf σ 108, slotOf σ 109, slotOf σ 110, slotOf σ 111, slotOf σ 112, slotOf σ 113, slotOf σ 114, slotOf σ 115, slotOf σ 116, slotOf σ 117, slotOf σ 118, slotOf σ 119, slotOf σ 120, slotOf σ 121, slotOf σ 122, slotOf σ 123], [.slice .imm (if (p.vars.map dV).isEmpty = true then 0 else 3) (p.vars.map dV), .slice .imm (if (p.procs.map dP).isEmpty = true then 0 else 6) (p.procs.map dP), .int .u8 p.main.kind, .int .i64 p.main.num, .str p.main.name, .slice .imm (if (p.main.kids.map dN).isEmpty = true then 0 else 4) (p.main.kids.map dN)] :: r3, nx3, lv3⟩ ∧ m = p.procs[i].params.length - j ∧ j ≤ p.procs[i].params.length ∧ Hid (AccB 81 4 o3 n3 M3 nx3 lv3) ∧ Hid (Lis M3 L3) ∧ Hid (L3 ++ vrF i false p.procs[i].params (p.procs[i].params.drop j) j = L ++ (if procI p p.procs[i].name < (i : Int) then [⟨i, [], 22, p.procs[i].name⟩] else []) ++ vrF i false p.procs[i].params p.procs[i].params 0) ∧ L3.length ≤ L.length + 1 + j ∧ r3[r.length]? = some (QC p.procs[i])) ?_ (p.procs[i].params.length) _ ?_
        rotate_left
        · exact ⟨0, _, _, L ++ [⟨i, [], 22, p.procs[i].name⟩], _, _, _, _, rfl, rfl, Nat.zero_le _, Lib.hid hacc, Lib.hid (hM.out.app (.one (f := ⟨i, [], 22, p.procs[i].name⟩) rfl rfl)), Lib.hid (by simp only [c6, if_true, List.drop_zero]), by (first | (simp; done) | (simp; omega)), app_get0 _ _⟩
        rintro m σ ⟨j, o3, n3, L3, M3, r3, nx3, lv3, hσ, rfl, hj, ha3, hM3, hL3, hl3, a1⟩
        generalize slotOf σ = x at hσ
        subst hσ
        have hml3 := hM3.out.len
        have hn33 : ∀ j, j < p.procs[i].params.length → ((if (p.procs[i].params.map dV).isEmpty = true then 0 else 3) = 3) = True := fun j h => eq_true (sl_n (j := j) (by simpa using h))
        simp only [QC, sl] at a1
        have a1s := fun l => snoc_get a1 l
        refine X_seq ?_
        refine X_seq ?_
        refine X_rg fun R hR => ?_
        simp only [EVP, nat_lt, aops, astep, awant, aeff, aop, abin, aint, mkD, ev, St.put, ia_slice, List.getElem?_cons_succ, List.getElem?_cons_zero, Option.getD_some, Option.map_some, if_true, List.set_cons_succ, List.set_cons_zero, List.length_map, List.length_cons, List.length_nil, List.drop_succ_cons, List.drop_zero, List.take_succ_cons, List.take_zero, Nat.reduceAdd, Nat.reduceLeDiff, Nat.zero_add, Bool.false_eq_true, if_false, reduceCtorEq, ty_s_api_VarDecl, ty_api_Proc, und_api_VarDecl, a1]
        with_reducible refine hR _ ?_
        clear hR R
        show X _ _ _ _
        refine X_ite (by simp only [ev, List.getElem?_cons_succ, List.getElem?_cons_zero, Option.getD_some]; exact rfl) ?_ ?_
        · intro b7
          have c7 := b7
          try simp only [decide_eq_true_eq] at c7
          refine X_skip ?_
          show X _ _ _ _
          refine X_seq ?_
          refine X_block ?_
          refine X_seq ?_
          have hlj : j < p.procs[i].params.length := by first | assumption | omega
          have hn1 := hn33 j hlj
          have e1 : (p.procs[i].params.map dV)[j]? = some (.agg [.str p.procs[i].params[j].name, .int .u8 p.procs[i].params[j].kind, .int .i64 p.procs[i].params[j].len]) := by simp [hlj, dV]
          have hfr := rfind_take p.procs[i].params j p.procs[i].params[j].name (by omega)
          have hle : ((j : Int) ≤ (p.procs[i].params.length : Int)) = True := by simp; omega
          refine X_rg fun R hR => ?_
          simp only [EVP, app_get0, app_set0, nat_lt, nat_0, nat_to, aops, astep, awant, aeff, aop, mkD, idx, aslice, astore, ev, St.put, pcall, ia_str, cl_str, ia_slice, List.map_cons, List.map_nil, List.getElem?_cons_succ, List.getElem?_cons_zero, Option.getD_some, Option.map_some, Option.map_none, Option.bind_some, if_true, List.set_cons_succ, List.set_cons_zero, List.length_map, List.length_cons, List.length_nil, List.drop_succ_cons, List.drop_zero, List.take_succ_cons, List.take_zero, List.cons_append, List.nil_append, Nat.reduceAdd, Nat.reduceLeDiff, Nat.zero_add, Bool.false_eq_true, if_false, and_self, reduceCtorEq, decide_true, Option.isSome_some, ty_string, ty_s_api_VarDecl, ty_api_VarDecl, ty_api_Proc, und_api_VarDecl, siz_api_VarDecl, inf_api_VarDecl_eq, any14, dV_cells, dV_good, hlj, hn1, e1, hfr, hle, a1, true_or, Nat.sub_zero, Nat.zero_le, List.drop_zero, nat_le]
          with_reducible refine hR _ ?_
          clear hR R
          show X _ _ _ _
          refine X_seq ?_
          refine X_rg fun R hR => ?_
          simp only [aops, astep, awant, aeff, aop, ev, St.put, List.getElem?_cons_succ, List.getElem?_cons_zero, Option.getD_some, Option.map_some, if_true, List.set_cons_succ, List.set_cons_zero]
          with_reducible refine hR _ ?_
          clear hR R
          show X _ _ _ _
          refine X_ite (by simp only [ev, List.getElem?_cons_succ, List.getElem?_cons_zero, Option.getD_some]; exact rfl) ?_ ?_
          · intro b8
            have c8 := b8
            try simp only [Bool.not_eq_true', Bool.not_eq_false', decide_eq_true_eq, decide_eq_false_iff_not, beq_iff_eq, Int.not_lt, Int.not_le, ge_iff_le, gt_iff_lt, bne_iff_ne, ne_eq, bne_eq_false_iff_eq, beq_eq_false_iff_ne, Bool.and_eq_true, Bool.or_eq_false_iff] at c8
            obtain ⟨lv1, hacc, hap⟩ := (ha3.out).app1 (P := Try.prog) (t := 44) und_backstepref06_Fault inf_backstepref06_Fault_eq inf_backstepref06_Fault_size (by omega) (by rw [inf_backstepref06_Fault_bytes]; omega) inf_backstepref06_Fault_zc (.agg [.int .i64 i, .slice .nil 0 [], .int .i64 22, .str p.procs[i].params[j].name]) (by omega)
            refine X_rg fun R hR => ?_
            simp only [EVP, inr_i64, Int.reduceLE, Int.reduceNeg, nat_lt, nat_0, nat_to, aops, astep, awant, aeff, aop, mkD, afill, abuild, ev, ofValue, St.put, gd_int, cl_int, gd_str, ia_str, cl_str, gd_agg, cl_agg, ia_slice, List.map_cons, List.map_nil, List.getElem?_cons_succ, List.getElem?_cons_zero, Option.getD_some, Option.map_some, if_true, List.set_cons_succ, List.set_cons_zero, List.length_map, List.length_cons, List.length_nil, List.drop_succ_cons, List.drop_zero, List.take_succ_cons, List.take_zero, List.cons_append, List.nil_append, Nat.reduceAdd, Nat.reduceLeDiff, Nat.reduceLT, Nat.zero_add, Bool.and_true, Bool.false_eq_true, if_false, and_self, reduceCtorEq, List.all_cons, List.all_nil, beq_self_eq_true, Option.isSome_some, Nat.reduceMul, rng_1, ty_string, ty_s_api_VarDecl, ty_api_VarDecl, ty_api_Proc, und_api_VarDecl, siz_api_VarDecl, inf_api_VarDecl_eq, ty_backstepref06_Fault, st_backstepref06_Fault, sta_backstepref06_Fault, und_backstepref06_Fault, inf_backstepref06_Fault_eq, inf_backstepref06_Fault_size, inf_backstepref06_Fault_zero, b8, hlj, hn1, e1, hap, a1s]
            with_reducible refine hR _ ?_
            clear hR R
            show X _ _ _ _
            have hbj : j < 9223372036854775807 := by omega
            refine X_rg fun R hR => ?_
            simp only [inr_i64, Int.reduceLE, Int.reduceNeg, aops, astep, awant, aeff, aop, abin, aint, ev, ofValue, St.put, List.getElem?_cons_succ, List.getElem?_cons_zero, Option.getD_some, Option.map_some, if_true, List.set_cons_succ, List.set_cons_zero, and_self, nat_succ hbj]
            with_reducible refine hR _ ?_
            clear hR R
            show ∃ m, m < _ ∧ _
            exact ⟨p.procs[i].params.length - (j + 1), by omega, j + 1, _, _, L3 ++ [⟨i, [], 22, p.procs[i].params[j].name⟩], _, _, _, _, rfl, rfl, by omega, Lib.hid hacc, Lib.hid (hM3.out.app (.one (f := ⟨i, [], 22, p.procs[i].params[j].name⟩) rfl rfl)), Lib.hid (by rw [← hL3.out, vrF_drop i false p.procs[i].params p.procs[i].params j hlj, fresh_y b8, List.append_assoc]; rfl), by rw [List.length_append]; simp; omega, snoc_get a1 _⟩
          · intro b9
            have c9 := b9
            try simp only [Bool.not_eq_true', Bool.not_eq_false', decide_eq_true_eq, decide_eq_false_iff_not, beq_iff_eq, Int.not_lt, Int.not_le, ge_iff_le, gt_iff_lt, bne_iff_ne, ne_eq, bne_eq_false_iff_eq, beq_eq_false_iff_ne, Bool.and_eq_true, Bool.or_eq_false_iff] at c9
            refine X_skip ?_
            show X _ _ _ _
            have hbj : j < 9223372036854775807 := by omega
            refine X_rg fun R hR => ?_
            simp only [inr_i64, Int.reduceLE, Int.reduceNeg, aops, astep, awant, aeff, aop, abin, aint, ev, ofValue, St.put, List.getElem?_cons_succ, List.getElem?_cons_zero, Option.getD_some, Option.map_some, if_true, List.set_cons_succ, List.set_cons_zero, and_self, b9, nat_succ hbj]
            with_reducible refine hR _ ?_
            clear hR R
            show ∃ m, m < _ ∧ _
            exact ⟨p.procs[i].params.length - (j + 1), by omega, j + 1, o3, n3, L3, M3, _, nx3, lv3, rfl, rfl, by omega, ha3, hM3, Lib.hid (by rw [← hL3.out, vrF_drop i false p.procs[i].params p.procs[i].params j hlj, fresh_n b9]; rfl), by omega, snoc_get a1 _⟩
        · intro b10
          have c10 := b10
          try simp only [decide_eq_false_iff_not] at c10
          refine X_exit ?_
          show X _ _ _ _
          have hno := node_nil p (i : Int) (by omega) p.procs[i].body p.procs[i].params (by omega) (by omega)
          simp only [sl] at hno
          have hvl5 := visF_len p i p.procs[i].body [] p.procs[i].params
          obtain ⟨o5, n5, nx5, lv5, ha5, hap5⟩ := ha3.out.appE (P := Try.prog) (t := 44) und_backstepref06_Fault inf_backstepref06_Fault_eq inf_backstepref06_Fault_size (by omega) (by rw [inf_backstepref06_Fault_bytes]; omega) inf_backstepref06_Fault_zc ((visF p i p.procs[i].body [] p.procs[i].params).map dFt) (by simp; omega)
          refine X_rg fun R hR => ?_
          simp only [EVP, aops, astep, awant, aeff, aop, mkD, ev, ofValue, St.put, pcall, ia_slice, List.map_cons, List.map_nil, List.getElem?_cons_succ, List.getElem?_cons_zero, Option.getD_some, Option.map_some, if_true, List.set_cons_succ, List.set_cons_zero, List.length_cons, List.length_nil, List.drop_succ_cons, List.drop_zero, List.take_succ_cons, List.take_zero, List.cons_append, List.nil_append, Nat.reduceAdd, Nat.reduceLeDiff, Nat.zero_add, Bool.false_eq_true, if_false, reduceCtorEq, ty_s_api_VarDecl, ty_api_Node, ty_api_Proc, ty_api_Program, any51, dN_agg, dG_agg, b10, a1, hno, hap5]
          with_reducible refine hR _ ?_
          clear hR R
          show X _ _ _ _
          have hbig : i < 9223372036854775807 := by omega
          refine X_rg fun R hR => ?_
          simp only [inr_i64, Int.reduceLE, Int.reduceNeg, aops, astep, awant, aeff, aop, abin, aint, ev, ofValue, St.put, List.getElem?_cons_succ, List.getElem?_cons_zero, Option.getD_some, Option.map_some, if_true, List.set_cons_succ, List.set_cons_zero, and_self, nat_succ hbig]
          with_reducible refine hR _ ?_
          clear hR R
          show ∃ m, m < _ ∧ _
          exact ⟨p.procs.length - (i + 1), by omega, i + 1, o5, n5, L3 ++ visF p i p.procs[i].body [] p.procs[i].params, _, r3, nx5, lv5, rfl, rfl, by omega, Lib.hid ha5, Lib.hid (hM3.out.app (.of _)), Lib.hid (by have h1 := hL3.out; rw [List.drop_of_length_le (by omega)] at h1; simp only [vrF, List.append_nil] at h1; rw [← hL.out, procsF_drop p p.procs i hlt, h1, procF]; simp only [List.append_assoc]), by rw [List.length_append]; omega⟩
      · intro b11
        have c11 := b11
        try simp only [decide_eq_false_iff_not, Int.not_lt] at c11
        refine X_skip ?_
        show X _ _ _ _
        refine X_seq ?_
        refine X_seq ?_
        refine X_rg fun R hR => ?_
        simp only [inr_i64, Int.reduceLE, Int.reduceNeg, aops, astep, awant, aeff, aop, ev, ofValue, St.put, Option.getD_some, Option.map_some, if_true, List.set_cons_succ, List.set_cons_zero, and_self, b11]
        with_reducible refine hR _ ?_
        clear hR R
        show X _ _ _ _
        refine X_block ?_
        refine X_loop (fun m σ => ∃ (j : Nat) (o3 : Own) (n3 : Nat) (L3 : List Ft) (M3 : List D) (r3 : List (List D)) (nx3 : Nat) (lv3 : List Nat), σ = ⟨[slotOf σ 0, .ptr 0 0, slotOf σ 2, .slice o3 n3 M3, slotOf σ 4, slotOf σ 5, slotOf σ 6, .int .i64 i, .ptr (r.length + 1) 0, .int .i64 j, slotOf σ 10, slotOf σ 11, slotOf σ 12, slotOf σ 13, slotOf σ 14, slotOf σ 15, slotOf σ 16, slotOf σ 17, slotOf σ 18, slotOf σ 19, slotOf σ 20, slotOf σ 21, slotOf σ 22, slotOf σ 23, slotOf σ 24, slotOf σ 25, slotOf σ 26, slotOf σ 27, slotOf σ 28, slotOf σ 29, slotOf σ 30, slotOf σ 31, slotOf σ 32, slotOf σ 33, slotOf σ 34, slotOf σ 35, slotOf σ 36, slotOf σ 37, slotOf σ 38, slotOf σ 39, slotOf σ 40, slotOf σ 41, slotOf σ 42, slotOf σ 43, slotOf σ 44, slotOf σ 45, slotOf σ 46, slotOf σ 47, slotOf σ 48, slotOf σ 49, slotOf σ 50, slotOf σ 51, slotOf σ 52, slotOf σ 53, slotOf σ 54, slotOf σ 55, slotOf σ 56, slotOf σ 57, slotOf σ 58, slotOf σ 59, slotOf σ 60, slotOf σ 61, slotOf σ 62, slotOf σ 63, slotOf σ 64, slotOf σ 65, slotOf σ 66, slotOf σ 67, slotOf σ 68, slotOf σ 69, slotOf σ 70, slotOf σ 71, slotOf σ 72, slotOf σ 73, slotOf σ 74, slotOf σ 75, slotOf σ 76, slotOf σ 77, slotOf σ 78, slotOf σ 79, slotOf σ 80, slotOf σ 81, slotOf σ 82, slotOf σ 83, slotOf σ 84, slotOf σ 85, slotOf σ 86, slotOf σ 87, slotOf σ 88, slotOf σ 89, slotOf σ 90, slotOf σ 91, slotOf σ 92, slotOf σ 93, slotOf σ 94, slotOf σ 95, slotOf σ 96, slotOf σ 97, slotOf σ 98, slotOf σ 99, slotOf σ 100, slotOf σ 101, slotOf σ 102, slotOf σ 103, slotOf σ 104, slotOf σ 105, slotOf σ 106, slotOf σ 107, slotOf σ 108, slotOf σ 109, slotOf σ 110, slotOf σ 111, slotOf σ 112, slotOf σ 113, slotOf σ 114, slotOf σ 115, slotOf σ 116, slotOf σ 117, slotOf σ 118, slotOf σ 119, slotOf σ 120, slotOf σ 121, slotOf σ 122, slotOf σ 123], [.slice .imm (if (p.vars.map dV).isEmpty = true then 0 else 3) (p.vars.map dV), .slice .imm (if (p.procs.map dP).isEmpty = true then 0 else 6) (p.procs.map dP), .int .u8 p.main.kind, .int .i64 p.main.num, .str p.main.name, .slice .imm (if (p.main.kids.map dN).isEmpty = true then 0 else 4) (p.main.kids.map dN)] :: r3, nx3, lv3⟩ ∧ m = p.procs[i].params.length - j ∧ j ≤ p.procs[i].params.length ∧ Hid (AccB 81 4 o3 n3 M3 nx3 lv3) ∧ Hid (Lis M3 L3) ∧ Hid (L3 ++ vrF i false p.procs[i].params (p.procs[i].params.drop j) j = L ++ (if procI p p.procs[i].name < (i : Int) then [⟨i, [], 22, p.procs[i].name⟩] else []) ++ vrF i false p.procs[i].params p.procs[i].params 0) ∧ L3.length ≤ L.length + 1 + j ∧ r3[r.length]? = some (QC p.procs[i])) ?_ (p.procs[i].params.length) _ ?_
        rotate_left
        · exact ⟨0, o, n, L, M, _, nx, lv, rfl, rfl, Nat.zero_le _, ha, hM, Lib.hid (by rw [if_neg (by omega)]; simp only [List.drop_zero, List.append_nil]), by omega, app_get0 _ _⟩
        rintro m σ ⟨j, o3, n3, L3, M3, r3, nx3, lv3, hσ, rfl, hj, ha3, hM3, hL3, hl3, a1⟩
        generalize slotOf σ = x at hσ
        subst hσ
        have hml3 := hM3.out.len
        have hn33 : ∀ j, j < p.procs[i].params.length → ((if (p.procs[i].params.map dV).isEmpty = true then 0 else 3) = 3) = True := fun j h => eq_true (sl_n (j := j) (by simpa using h))
        simp only [QC, sl] at a1
        have a1s := fun l => snoc_get a1 l
        refine X_seq ?_
        refine X_seq ?_
        refine X_rg fun R hR => ?_
        simp only [EVP, nat_lt, aops, astep, awant, aeff, aop, abin, aint, mkD, ev, St.put, ia_slice, List.getElem?_cons_succ, List.getElem?_cons_zero, Option.getD_some, Option.map_some, if_true, List.set_cons_succ, List.set_cons_zero, List.length_map, List.length_cons, List.length_nil, List.drop_succ_cons, List.drop_zero, List.take_succ_cons, List.take_zero, Nat.reduceAdd, Nat.reduceLeDiff, Nat.zero_add, Bool.false_eq_true, if_false, reduceCtorEq, ty_s_api_VarDecl, ty_api_Proc, und_api_VarDecl, a1]
        with_reducible refine hR _ ?_
        clear hR R
        show X _ _ _ _
        refine X_ite (by simp only [ev, List.getElem?_cons_succ, List.getElem?_cons_zero, Option.getD_some]; exact rfl) ?_ ?_
        · intro b12
          have c12 := b12
          try simp only [decide_eq_true_eq] at c12
          refine X_skip ?_
          show X _ _ _ _
          refine X_seq ?_
          refine X_block ?_
          refine X_seq ?_
          have hlj : j < p.procs[i].params.length := by first | assumption | omega
          have hn1 := hn33 j hlj
          have e1 : (p.procs[i].params.map dV)[j]? = some (.agg [.str p.procs[i].params[j].name, .int .u8 p.procs[i].params[j].kind, .int .i64 p.procs[i].params[j].len]) := by simp [hlj, dV]
          have hfr := rfind_take p.procs[i].params j p.procs[i].params[j].name (by omega)
          have hle : ((j : Int) ≤ (p.procs[i].params.length : Int)) = True := by simp; omega
          refine X_rg fun R hR => ?_
          simp only [EVP, app_get0, app_set0, nat_lt, nat_0, nat_to, aops, astep, awant, aeff, aop, mkD, idx, aslice, astore, ev, St.put, pcall, ia_str, cl_str, ia_slice, List.map_cons, List.map_nil, List.getElem?_cons_succ, List.getElem?_cons_zero, Option.getD_some, Option.map_some, Option.map_none, Option.bind_some, if_true, List.set_cons_succ, List.set_cons_zero, List.length_map, List.length_cons, List.length_nil, List.drop_succ_cons, List.drop_zero, List.take_succ_cons, List.take_zero, List.cons_append, List.nil_append, Nat.reduceAdd, Nat.reduceLeDiff, Nat.zero_add, Bool.false_eq_true, if_false, and_self, reduceCtorEq, decide_true, Option.isSome_some, ty_string, ty_s_api_VarDecl, ty_api_VarDecl, ty_api_Proc, und_api_VarDecl, siz_api_VarDecl, inf_api_VarDecl_eq, any14, dV_cells, dV_good, hlj, hn1, e1, hfr, hle, a1, true_or, Nat.sub_zero, Nat.zero_le, List.drop_zero, nat_le]
          with_reducible refine hR _ ?_
          clear hR R
          show X _ _ _ _
          refine X_seq ?_
          refine X_rg fun R hR => ?_
          simp only [aops, astep, awant, aeff, aop, ev, St.put, List.getElem?_cons_succ, List.getElem?_cons_zero, Option.getD_some, Option.map_some, if_true, List.set_cons_succ, List.set_cons_zero]
          with_reducible refine hR _ ?_
          clear hR R
          show X _ _ _ _
          refine X_ite (by simp only [ev, List.getElem?_cons_succ, List.getElem?_cons_zero, Option.getD_some]; exact rfl) ?_ ?_
          · intro b13
            have c13 := b13
            try simp only [Bool.not_eq_true', Bool.not_eq_false', decide_eq_true_eq, decide_eq_false_iff_not, beq_iff_eq, Int.not_lt, Int.not_le, ge_iff_le, gt_iff_lt, bne_iff_ne, ne_eq, bne_eq_false_iff_eq, beq_eq_false_iff_ne, Bool.and_eq_true, Bool.or_eq_false_iff] at c13
            obtain ⟨lv1, hacc, hap⟩ := (ha3.out).app1 (P := Try.prog) (t := 44) und_backstepref06_Fault inf_backstepref06_Fault_eq inf_backstepref06_Fault_size (by omega) (by rw [inf_backstepref06_Fault_bytes]; omega) inf_backstepref06_Fault_zc (.agg [.int .i64 i, .slice .nil 0 [], .int .i64 22, .str p.procs[i].params[j].name]) (by omega)
            refine X_rg fun R hR => ?_
            simp only [EVP, inr_i64, Int.reduceLE, Int.reduceNeg, nat_lt, nat_0, nat_to, aops, astep, awant, aeff, aop, mkD, afill, abuild, ev, ofValue, St.put, gd_int, cl_int, gd_str, ia_str, cl_str, gd_agg, cl_agg, ia_slice, List.map_cons, List.map_nil, List.getElem?_cons_succ, List.getElem?_cons_zero, Option.getD_some, Option.map_some, if_true, List.set_cons_succ, List.set_cons_zero, List.length_map, List.length_cons, List.length_nil, List.drop_succ_cons, List.drop_zero, List.take_succ_cons, List.take_zero, List.cons_append, List.nil_append, Nat.reduceAdd, Nat.reduceLeDiff, Nat.reduceLT, Nat.zero_add, Bool.and_true, Bool.false_eq_true, if_false, and_self, reduceCtorEq, List.all_cons, List.all_nil, beq_self_eq_true, Option.isSome_some, Nat.reduceMul, rng_1, ty_string, ty_s_api_VarDecl, ty_api_VarDecl, ty_api_Proc, und_api_VarDecl, siz_api_VarDecl, inf_api_VarDecl_eq, ty_backstepref06_Fault, st_backstepref06_Fault, sta_backstepref06_Fault, und_backstepref06_Fault, inf_backstepref06_Fault_eq, inf_backstepref06_Fault_size, inf_backstepref06_Fault_zero, b13, hlj, hn1, e1, hap, a1s]
            with_reducible refine hR _ ?_
            clear hR R
            show X _ _ _ _
            have hbj : j < 9223372036854775807 := by omega
            refine X_rg fun R hR => ?_
            simp only [inr_i64, Int.reduceLE, Int.reduceNeg, aops, astep, awant, aeff, aop, abin, aint, ev, ofValue, St.put, List.getElem?_cons_succ, List.getElem?_cons_zero, Option.getD_some, Option.map_some, if_true, List.set_cons_succ, List.set_cons_zero, and_self, nat_succ hbj]
            with_reducible refine hR _ ?_
            clear hR R
            show ∃ m, m < _ ∧ _
            exact ⟨p.procs[i].params.length - (j + 1), by omega, j + 1, _, _, L3 ++ [⟨i, [], 22, p.procs[i].params[j].name⟩], _, _, _, _, rfl, rfl, by omega, Lib.hid hacc, Lib.hid (hM3.out.app (.one (f := ⟨i, [], 22, p.procs[i].params[j].name⟩) rfl rfl)), Lib.hid (by rw [← hL3.out, vrF_drop i false p.procs[i].params p.procs[i].params j hlj, fresh_y b13, List.append_assoc]; rfl), by rw [List.length_append]; simp; omega, snoc_get a1 _⟩
          · intro b14
            have c14 := b14
            try simp only [Bool.not_eq_true', Bool.not_eq_false', decide_eq_true_eq, decide_eq_false_iff_not, beq_iff_eq, Int.not_lt, Int.not_le, ge_iff_le, gt_iff_lt, bne_iff_ne, ne_eq, bne_eq_false_iff_eq, beq_eq_false_iff_ne, Bool.and_eq_true, Bool.or_eq_false_iff] at c14
            refine X_skip ?_
            show X _ _ _ _
            have hbj : j < 9223372036854775807 := by omega
            refine X_rg fun R hR => ?_
            simp only [inr_i64, Int.reduceLE, Int.reduceNeg, aops, astep, awant, aeff, aop, abin, aint, ev, ofValue, St.put, List.getElem?_cons_succ, List.getElem?_cons_zero, Option.getD_some, Option.map_some, if_true, List.set_cons_succ, List.set_cons_zero, and_self, b14, nat_succ hbj]
            with_reducible refine hR _ ?_
            clear hR R
            show ∃ m, m < _ ∧ _
            exact ⟨p.procs[i].params.length - (j + 1), by omega, j + 1, o3, n3, L3, M3, _, nx3, lv3, rfl, rfl, by omega, ha3, hM3, Lib.hid (by rw [← hL3.out, vrF_drop i false p.procs[i].params p.procs[i].params j hlj, fresh_n b14]; rfl), by omega, snoc_get a1 _⟩
        · intro b15
          have c15 := b15
          try simp only [decide_eq_false_iff_not] at c15
          refine X_exit ?_
          show X _ _ _ _
          have hno := node_nil p (i : Int) (by omega) p.procs[i].body p.procs[i].params (by omega) (by omega)
          simp only [sl] at hno
          have hvl5 := visF_len p i p.procs[i].body [] p.procs[i].params
          obtain ⟨o5, n5, nx5, lv5, ha5, hap5⟩ := ha3.out.appE (P := Try.prog) (t := 44) und_backstepref06_Fault inf_backstepref06_Fault_eq inf_backstepref06_Fault_size (by omega) (by rw [inf_backstepref06_Fault_bytes]; omega) inf_backstepref06_Fault_zc ((visF p i p.procs[i].body [] p.procs[i].params).map dFt) (by simp; omega)
          refine X_rg fun R hR => ?_
          simp only [EVP, aops, astep, awant, aeff, aop, mkD, ev, ofValue, St.put, pcall, ia_slice, List.map_cons, List.map_nil, List.getElem?_cons_succ, List.getElem?_cons_zero, Option.getD_some, Option.map_some, if_true, List.set_cons_succ, List.set_cons_zero, List.length_cons, List.length_nil, List.drop_succ_cons, List.drop_zero, List.take_succ_cons, List.take_zero, List.cons_append, List.nil_append, Nat.reduceAdd, Nat.reduceLeDiff, Nat.zero_add, Bool.false_eq_true, if_false, reduceCtorEq, ty_s_api_VarDecl, ty_api_Node, ty_api_Proc, ty_api_Program, any51, dN_agg, dG_agg, b15, a1, hno, hap5]
          with_reducible refine hR _ ?_
          clear hR R
          show X _ _ _ _
          have hbig : i < 9223372036854775807 := by omega
          refine X_rg fun R hR => ?_
          simp only [inr_i64, Int.reduceLE, Int.reduceNeg, aops, astep, awant, aeff, aop, abin, aint, ev, ofValue, St.put, List.getElem?_cons_succ, List.getElem?_cons_zero, Option.getD_some, Option.map_some, if_true, List.set_cons_succ, List.set_cons_zero, and_self, nat_succ hbig]
          with_reducible refine hR _ ?_
          clear hR R
          show ∃ m, m < _ ∧ _
          exact ⟨p.procs.length - (i + 1), by omega, i + 1, o5, n5, L3 ++ visF p i p.procs[i].body [] p.procs[i].params, _, r3, nx5, lv5, rfl, rfl, by omega, Lib.hid ha5, Lib.hid (hM3.out.app (.of _)), Lib.hid (by have h1 := hL3.out; rw [List.drop_of_length_le (by omega)] at h1; simp only [vrF, List.append_nil] at h1; rw [← hL.out, procsF_drop p p.procs i hlt, h1, procF]; simp only [List.append_assoc]), by rw [List.length_append]; omega⟩
    · intro b16
      have c16 := b16
      try simp only [decide_eq_false_iff_not] at c16
      refine X_exit ?_
      show X _ _ _ _
      refine X_seq ?_
      have hno := node_nil p (p.procs.length : Int) (by omega) p.main p.vars (by omega) (by omega)
      simp only [sl] at hno
      have hvl5 := visF_len p p.procs.length p.main [] p.vars
      obtain ⟨o5, n5, nx5, lv5, ha5, hap5⟩ := ha.out.appE (P := Try.prog) (t := 44) und_backstepref06_Fault inf_backstepref06_Fault_eq inf_backstepref06_Fault_size (by omega) (by rw [inf_backstepref06_Fault_bytes]; omega) inf_backstepref06_Fault_zc ((visF p p.procs.length p.main [] p.vars).map dFt) (by simp; omega)
      refine X_rg fun R hR => ?_
      simp only [EVP, aops, astep, awant, aeff, aop, mkD, ev, ofValue, St.put, pcall, ia_slice, List.map_cons, List.map_nil, List.getElem?_cons_succ, List.getElem?_cons_zero, Option.getD_some, Option.map_some, if_true, List.set_cons_succ, List.set_cons_zero, List.length_map, List.length_cons, List.length_nil, List.drop_succ_cons, List.drop_zero, List.take_succ_cons, List.take_zero, List.cons_append, List.nil_append, Nat.reduceAdd, Nat.reduceLeDiff, Nat.zero_add, Nat.add_zero, Bool.false_eq_true, if_false, reduceCtorEq, ty_s_api_VarDecl, ty_s_api_Proc, ty_api_Node, ty_api_Program, und_api_Proc, any51, dN_agg, dG_agg, b16, hno, hap5]
      with_reducible refine hR _ ?_
      clear hR R
      show X _ _ _ _
      refine X_ret ?_
      show ∃ d, resD _ _ _ = some d ∧ _ ∧ _
      simp only [resD, resAll, resOne, resTup, Try.results21, EVP, List.getElem?_cons_succ, List.getElem?_cons_zero, D.good, if_true, Option.map_some]
      have hT : L = vrF (-1) true p.vars p.vars 0 ++ procsF p p.procs 0 := by have h1 := hL.out; rw [List.drop_of_length_le (by omega)] at h1; simpa only [procsF, List.append_nil] using h1
      have hLi := hM.out.app (.of (visF p p.procs.length p.main [] p.vars))
      have hst := ha5.a.strip
      refine ⟨_, rfl, ?_, ?_⟩
      · simp only [D.under]; exact hLi.u
      · rw [hst, hLi.s, hT, checkF, List.append_assoc]; rfl

end Go.Proofs.Ytjikokmhknnnoaa
