/- The law ScopeUnused: equal rows of faults. -/
import Derived.Test.YtjikokmhknnnoaaUn
import Derived.Test.YtjikokmhknnnoaaW1
import Derived.Test.YtjikokmhknnnoaaCx
import Derived.Test.YtjikokmhknnnoaaLs
namespace Go.Proofs.Ytjikokmhknnnoaa
open Go.RowKit

set_option maxRecDepth 100000 in
set_option maxHeartbeats 4000000 in
theorem equal_fn (l : List Ft) (hl : l.length ≤ 1000000) (hp : ∀ f ∈ l, f.path.length ≤ 1000000 ∧ IntKind.i64.wrap f.proc = f.proc) : fn EV 27 [sl 4 (l.map dFt), sl 4 (l.map dFt), .int .i64 0] = some (.int .i64 1) := by
  refine fn_X rfl Try.func27 rfl (by simp only [plain, List.all_cons, List.all_nil, sl_pl dFt_under, Bool.and_true]; rfl) (rfl) (rfl) (rfl) ?_
  simp only [List.map_cons, List.map_nil, D.strip, sl_strip (map_strip dFt_strip _)]
  simp only [enterSt, Try.ntmps27, List.length_cons, List.length_nil, Nat.reduceAdd, Nat.reduceSub, List.replicate_succ, List.replicate_zero, List.cons_append, List.nil_append]
  refine X_seq ?_
  refine X_rg fun R hR => ?_
  simp only [inr_i64, Int.reduceLE, Int.reduceNeg, aops, astep, awant, aeff, aop, ev, ofValue, St.put, Option.getD_some, Option.map_some, if_true, List.set_cons_succ, List.set_cons_zero, and_self, sl]
  with_reducible refine hR _ ?_
  clear hR R
  show X _ _ _ _
  refine X_seq ?_
  refine X_seq ?_
  refine X_rg fun R hR => ?_
  simp only [EVP, aops, astep, awant, aeff, aop, abin, aint, ev, St.put, List.getElem?_cons_succ, List.getElem?_cons_zero, Option.getD_some, Option.map_some, if_true, List.set_cons_succ, List.set_cons_zero, List.length_map, bne_self_eq_false, und_scope_Fault]
  with_reducible refine hR _ ?_
  clear hR R
  show X _ _ _ _
  refine X_false (by simp only [ev, List.getElem?_cons_succ, List.getElem?_cons_zero, Option.getD_some]) ?_
  refine X_skip ?_
  show X _ _ _ _
  refine X_seq ?_
  refine X_seq ?_
  refine X_rg fun R hR => ?_
  simp only [inr_i64, Int.reduceLE, Int.reduceNeg, aops, astep, awant, aeff, aop, ev, ofValue, St.put, Option.getD_some, Option.map_some, if_true, List.set_cons_succ, List.set_cons_zero, and_self]
  with_reducible refine hR _ ?_
  clear hR R
  show X _ _ _ _
  refine X_block ?_
  refine X_loop (fun m σ => ∃ (i : Nat), σ = ⟨[.slice .imm (if (l.map dFt).isEmpty = true then 0 else 4) (l.map dFt), .slice .imm (if (l.map dFt).isEmpty = true then 0 else 4) (l.map dFt), .int .i64 0, slotOf σ 3, slotOf σ 4, slotOf σ 5, slotOf σ 6, .int .i64 i, slotOf σ 8, slotOf σ 9, slotOf σ 10, slotOf σ 11, slotOf σ 12, slotOf σ 13, slotOf σ 14, slotOf σ 15, slotOf σ 16, slotOf σ 17, slotOf σ 18, slotOf σ 19, slotOf σ 20, slotOf σ 21, slotOf σ 22, slotOf σ 23, slotOf σ 24, slotOf σ 25, slotOf σ 26, slotOf σ 27, slotOf σ 28, slotOf σ 29, slotOf σ 30, slotOf σ 31, slotOf σ 32, slotOf σ 33, slotOf σ 34, slotOf σ 35, slotOf σ 36, slotOf σ 37, slotOf σ 38, slotOf σ 39, slotOf σ 40, slotOf σ 41, slotOf σ 42, slotOf σ 43, slotOf σ 44, slotOf σ 45, slotOf σ 46, slotOf σ 47, slotOf σ 48, slotOf σ 49, slotOf σ 50, slotOf σ 51, slotOf σ 52, slotOf σ 53, slotOf σ 54, slotOf σ 55, slotOf σ 56, slotOf σ 57, slotOf σ 58, slotOf σ 59, slotOf σ 60, slotOf σ 61, slotOf σ 62, slotOf σ 63, slotOf σ 64, slotOf σ 65, slotOf σ 66, slotOf σ 67, slotOf σ 68, slotOf σ 69, slotOf σ 70, slotOf σ 71, slotOf σ 72, slotOf σ 73, slotOf σ 74, slotOf σ 75, slotOf σ 76, slotOf σ 77, slotOf σ 78, slotOf σ 79], [], 0, []⟩ ∧ m = l.length - i ∧ i ≤ l.length) ?_ (l.length) _ ?_
  rotate_left
  · exact ⟨0, rfl, rfl, Nat.zero_le _⟩
  rintro m σ ⟨i, hσ, rfl, hi⟩
  generalize slotOf σ = x at hσ
  subst hσ
  have hn1 : ∀ j, j < l.length → ((if (l.map dFt).isEmpty = true then 0 else 4) = 4) = True := fun j h => eq_true (sl_n (j := j) (by simpa using h))
  refine X_seq ?_
  refine X_seq ?_
  refine X_rg fun R hR => ?_
  simp only [EVP, nat_lt, aops, astep, awant, aeff, aop, abin, aint, ev, St.put, List.getElem?_cons_succ, List.getElem?_cons_zero, Option.getD_some, Option.map_some, if_true, List.set_cons_succ, List.set_cons_zero, List.length_map, und_scope_Fault]
  with_reducible refine hR _ ?_
  clear hR R
  show X _ _ _ _
  refine X_ite (by simp only [ev, List.getElem?_cons_succ, List.getElem?_cons_zero, Option.getD_some]; exact rfl) ?_ ?_
  · intro b1
    have c1 := b1
    try simp only [decide_eq_true_eq] at c1
    refine X_skip ?_
    show X _ _ _ _
    refine X_seq ?_
    refine X_block ?_
    refine X_seq ?_
    refine X_rg fun R hR => ?_
    simp only [aops, astep, awant, aeff, aop, ev, St.put, List.getElem?_cons_succ, List.getElem?_cons_zero, Option.getD_some, Option.map_some, if_true, List.set_cons_succ, List.set_cons_zero, decide_true, c1]
    with_reducible refine hR _ ?_
    clear hR R
    show X _ _ _ _
    refine X_seq ?_
    refine X_seq ?_
    have hlt : i < l.length := by first | assumption | omega
    have h1 := hn1 i hlt
    have e1 : (l.map dFt)[i]? = some (.agg [.int .i64 l[i].proc, .slice .imm (if (l[i].path.map dI).isEmpty = true then 0 else 1) (l[i].path.map dI), .int .i64 l[i].err, .str l[i].name]) := by simp [hlt, dFt, sl]
    refine X_rg fun R hR => ?_
    simp only [EVP, inr_i64, Int.reduceLE, Int.reduceNeg, nat_lt, nat_0, nat_to, aops, astep, awant, aeff, aop, abin, aint, ev, ofValue, St.put, ia_int, cl_int, List.getElem?_cons_succ, List.getElem?_cons_zero, Option.getD_some, Option.map_some, if_true, List.set_cons_succ, List.set_cons_zero, List.length_map, List.length_cons, List.length_nil, List.drop_zero, List.take_succ_cons, List.take_zero, Nat.reduceAdd, Nat.reduceLeDiff, Nat.zero_add, Bool.false_eq_true, if_false, and_self, reduceCtorEq, Option.isSome_some, ty_int, ty_scope_Fault, und_scope_Fault, siz_scope_Fault, inf_scope_Fault_eq, c1, h1, e1]
    with_reducible refine hR _ ?_
    clear hR R
    show X _ _ _ _
    refine X_ite (by simp only [ev, List.getElem?_cons_succ, List.getElem?_cons_zero, Option.getD_some]; exact rfl) ?_ ?_
    · intro b2
      have c2 := b2
      try simp only [decide_eq_true_eq] at c2
      refine X_rg fun R hR => ?_
      simp only [inr_i64, Int.reduceLE, Int.reduceNeg, aops, astep, awant, aeff, aop, ev, ofValue, St.put, Option.getD_some, Option.map_some, if_true, List.set_cons_succ, List.set_cons_zero, and_self, decide_true, c2]
      with_reducible refine hR _ ?_
      clear hR R
      show X _ _ _ _
      refine X_seq ?_
      have hin := ints_fn l[i].path l[i].path (hp _ (List.getElem_mem hlt)).1
      simp only [sl, decide_true] at hin
      have hpr := (hp _ (List.getElem_mem hlt)).2
      refine X_rg fun R hR => ?_
      simp only [EVP, nat_lt, nat_0, nat_to, aops, astep, awant, aeff, aop, abin, aint, astr, ev, ofValue, St.put, pcall, ia_int, cl_int, ia_str, cl_str, ia_slice, cl_slice, List.map_cons, List.map_nil, List.getElem?_cons_succ, List.getElem?_cons_zero, Option.getD_some, Option.map_some, Option.bind_some, if_true, List.set_cons_succ, List.set_cons_zero, List.length_map, List.length_cons, List.length_nil, List.drop_succ_cons, List.drop_zero, List.take_succ_cons, List.take_zero, List.cons_append, List.nil_append, Nat.reduceAdd, Nat.reduceLeDiff, Nat.zero_add, Bool.not_true, Bool.false_eq_true, if_false, and_self, reduceCtorEq, beq_self_eq_true, bne_self_eq_false, Option.isSome_some, ty_int, ty_string, ty_s_int, ty_api_Errno, ty_scope_Fault, und_scope_Fault, siz_scope_Fault, inf_scope_Fault_eq, any24, c1, h1, e1, hin, hpr, Int.add_zero, bne_self_eq_false]
      with_reducible refine hR _ ?_
      clear hR R
      show X _ _ _ _
      refine X_false (by simp only [ev, List.getElem?_cons_succ, List.getElem?_cons_zero, Option.getD_some]) ?_
      refine X_skip ?_
      show X _ _ _ _
      have hbig : i < 9223372036854775807 := by omega
      refine X_rg fun R hR => ?_
      simp only [inr_i64, Int.reduceLE, Int.reduceNeg, aops, astep, awant, aeff, aop, abin, aint, ev, ofValue, St.put, List.getElem?_cons_succ, List.getElem?_cons_zero, Option.getD_some, Option.map_some, if_true, List.set_cons_succ, List.set_cons_zero, and_self, nat_succ hbig]
      with_reducible refine hR _ ?_
      clear hR R
      show ∃ m, m < _ ∧ _
      exact ⟨l.length - (i + 1), by omega, i + 1, rfl, rfl, by omega⟩
    · intro b3
      have c3 := b3
      try simp only [decide_eq_false_iff_not, Int.not_lt] at c3
      refine X_skip ?_
      show X _ _ _ _
      refine X_seq ?_
      have hin := ints_fn l[i].path l[i].path (hp _ (List.getElem_mem hlt)).1
      simp only [sl, decide_true] at hin
      have hpr := (hp _ (List.getElem_mem hlt)).2
      refine X_rg fun R hR => ?_
      simp only [EVP, nat_lt, nat_0, nat_to, aops, astep, awant, aeff, aop, abin, aint, astr, ev, ofValue, St.put, pcall, ia_int, cl_int, ia_str, cl_str, ia_slice, cl_slice, List.map_cons, List.map_nil, List.getElem?_cons_succ, List.getElem?_cons_zero, Option.getD_some, Option.map_some, Option.bind_some, if_true, List.set_cons_succ, List.set_cons_zero, List.length_map, List.length_cons, List.length_nil, List.drop_succ_cons, List.drop_zero, List.take_succ_cons, List.take_zero, List.cons_append, List.nil_append, Nat.reduceAdd, Nat.reduceLeDiff, Nat.zero_add, Bool.not_true, Bool.false_eq_true, if_false, and_self, reduceCtorEq, beq_self_eq_true, bne_self_eq_false, Option.isSome_some, ty_int, ty_string, ty_s_int, ty_api_Errno, ty_scope_Fault, und_scope_Fault, siz_scope_Fault, inf_scope_Fault_eq, any24, c1, b3, h1, e1, hin, hpr, Int.add_zero, bne_self_eq_false]
      with_reducible refine hR _ ?_
      clear hR R
      show X _ _ _ _
      refine X_false (by simp only [ev, List.getElem?_cons_succ, List.getElem?_cons_zero, Option.getD_some]) ?_
      refine X_skip ?_
      show X _ _ _ _
      have hbig : i < 9223372036854775807 := by omega
      refine X_rg fun R hR => ?_
      simp only [inr_i64, Int.reduceLE, Int.reduceNeg, aops, astep, awant, aeff, aop, abin, aint, ev, ofValue, St.put, List.getElem?_cons_succ, List.getElem?_cons_zero, Option.getD_some, Option.map_some, if_true, List.set_cons_succ, List.set_cons_zero, and_self, nat_succ hbig]
      with_reducible refine hR _ ?_
      clear hR R
      show ∃ m, m < _ ∧ _
      exact ⟨l.length - (i + 1), by omega, i + 1, rfl, rfl, by omega⟩
  · intro b4
    have c4 := b4
    try simp only [decide_eq_false_iff_not] at c4
    refine X_exit ?_
    show X _ _ _ _
    refine X_seq ?_
    refine X_rg fun R hR => ?_
    simp only [inr_i64, Int.reduceLE, Int.reduceNeg, aops, astep, awant, aeff, aop, ev, ofValue, St.put, Option.getD_some, Option.map_some, if_true, List.set_cons_succ, List.set_cons_zero, and_self, decide_false, c4]
    with_reducible refine hR _ ?_
    clear hR R
    show X _ _ _ _
    refine X_ret ?_
    show resD _ _ _ = some _
    simp only [resD, resAll, resOne, resTup, Try.results27, EVP, List.getElem?_cons_succ, List.getElem?_cons_zero, D.good, if_true, Option.map_some]

end Go.Proofs.Ytjikokmhknnnoaa

/- ScopeUnused: rows that are added to, what is valid, and Check as a call that hands back a box, ahead of the usual calls. -/
namespace Go.Proofs.Ytjikokmhknnnoaa
open Go.RowKit

def un8 : ByteArray := ⟨#[117, 110, 117, 115, 101, 100, 56]⟩
theorem un8_name : nameB un8 = true := by decide +kernel
theorem un8_ne : un8.toList ≠ [] := by
  have h := un8_name
  simp only [nameB, Bool.and_eq_true, decide_eq_true_eq] at h
  exact (ne_of_pos h.1.1.1.1).2
theorem block_fn : fn EV 26 [.slice .nil 0 []] = some (.agg [.int .u8 57, .int .i64 0, .str ⟨#[]⟩, .slice .imm 0 []]) := fn_of (n := 200) (by kernel_rfl)
theorem validB_addV {p : Pg} (h : smallB p = true) : validB (addV un8 p) = true := by
  obtain ⟨hv, h6, h20, h80⟩ := small_valid h
  simp only [validB, Bool.and_eq_true, Bool.not_eq_true', decide_eq_false_iff_not, List.all_eq_true] at hv ⊢
  obtain ⟨⟨⟨⟨a1, a2⟩, a3⟩, a4⟩, a5⟩ := hv
  refine ⟨⟨⟨⟨?_, a2⟩, ?_⟩, a4⟩, a5⟩
  · show ¬ (((p.vars ++ [(⟨un8, 3, 0⟩ : Vd)]).length : Int) > 32)
    simp; omega
  · intro v hv
    have hv' : v ∈ p.vars ++ [(⟨un8, 3, 0⟩ : Vd)] := hv
    rw [List.mem_append, List.mem_singleton] at hv'
    rcases hv' with q | rfl
    · exact a3 v q
    · simp only [declB, un8_name]; rfl
theorem validB_addP {p : Pg} (h : smallB p = true) : validB (addP un8 p) = true := by
  obtain ⟨hv, h6, h20, h80⟩ := small_valid h
  simp only [validB, Bool.and_eq_true, Bool.not_eq_true', decide_eq_false_iff_not, List.all_eq_true] at hv ⊢
  obtain ⟨⟨⟨⟨a1, a2⟩, a3⟩, a4⟩, a5⟩ := hv
  refine ⟨⟨⟨⟨a1, ?_⟩, a3⟩, ?_⟩, a5⟩
  · show ¬ (((p.procs ++ [(⟨un8, [], .mk 57 0 ⟨#[]⟩ []⟩ : Pr)]).length : Int) > 64)
    simp; omega
  · intro v hv
    have hv' : v ∈ p.procs ++ [(⟨un8, [], .mk 57 0 ⟨#[]⟩ []⟩ : Pr)] := hv
    rw [List.mem_append, List.mem_singleton] at hv'
    rcases hv' with q | rfl
    · exact a4 v q
    · simp only [procB, un8_name]; decide +kernel

/-- a row is added to a row of one's own, which may be empty -/
theorem app_gen {P : Program} {t e : TypeId} {i : TypeInfo} {sz st nx : Nat} {lv : List Nat} (hst : st ∈ lv) (L l2 : List D) (o2 : Own) (n2 : Nat) (hu : P.underlying t = some (.slice e)) (hi : P.info? e = some i) (hs : i.size = sz) (hp : 0 < sz) (hb : i.bytes ≤ 4096) (hz : (i.zero.map fun z => z.cells.size) = some sz)
    (hl : L.length + l2.length ≤ 16777216) (hn : l2 ≠ [] → n2 = sz) : ∃ st' nx' lv', st' ∈ lv' ∧ ∀ fr bx, aappend P ⟨fr, bx, nx, lv⟩ t (.slice (.own st e) sz L) (.slice o2 n2 l2) = some (.slice (.own st' e) sz (L ++ l2), ⟨fr, bx, nx', lv'⟩) := by
  by_cases h : l2 = []
  · subst h
    refine ⟨st, nx, lv, hst, fun fr bx => ?_⟩
    unfold aappend
    simp only [hu, hi, if_true, List.append_nil]
  · obtain rfl := hn h
    refine ⟨nx, nx + 1, nx :: lv.filter (· != st), by simp, fun fr bx => ?_⟩
    exact (Acc.own (L := L) hst).app (σ := ⟨fr, bx, nx, lv⟩) hu hi hs hp hb hz hl h

/-- the calls of the law: Check of the program with one procedure more hands back a box -/
noncomputable def chCa (p : Pg) : Nat → List D → St → Option (D × St) := calOr (checkCa (addP un8 p)) (pcall (fn EV))
theorem chCa_ok {p : Pg} (h : smallB p = true) (hne : checkF (addP un8 p) ≠ []) : CaOk Try.prog (chCa p) := CaOk.or (CaOk.check (addP un8 p) (validB_addP h) hne) (CaOk.pure fun _k' _a' _d' q => fn_sound EV EV_ok q)
theorem ch_box {p : Pg} {d : D} (σ : St) (hd : d.strip = dG (addP un8 p)) (hu : (d.under 0 && d.good) = true) : chCa p 18 [d] σ = some (.bsl σ.bx.length 0 4 (checkF (addP un8 p)).length, { σ with bx := σ.bx ++ [(checkF (addP un8 p)).flatMap fun f => (dFt f).cells] }) := by
  unfold chCa calOr checkCa
  rw [if_pos ⟨rfl, by simp [hd], by simp only [List.all_cons, List.all_nil, Bool.and_true]; exact hu⟩]
theorem ch_pure {p : Pg} {d r : D} (σ : St) (hd : d.strip ≠ dG (addP un8 p)) (h : fn EV 18 [d] = some r) : chCa p 18 [d] σ = some (r, σ) := by
  unfold chCa calOr checkCa
  rw [if_neg (fun q => hd (by simpa using q.2.1))]
  show (fn EV _ _).map _ = _
  rw [h]; rfl
theorem addV_ne (p : Pg) : dG (addV un8 p) ≠ dG (addP un8 p) := by
  intro h
  unfold dG at h
  have h2 := (List.cons.inj (List.cons.inj (D.agg.inj h)).2).1
  unfold sl at h2
  have h3 := (D.slice.inj h2).2.2
  have h4 := congrArg List.length h3
  simp [addV, addP] at h4

end Go.Proofs.Ytjikokmhknnnoaa

/- ScopeUnused: programs with one procedure or one variable more, whose rows are the run's own. -/
namespace Go.Proofs.Ytjikokmhknnnoaa
open Go.RowKit

/-- what is added -/
def UP : D := .agg [.str un8, .slice .nil 0 [], .int .u8 57, .int .i64 0, .str ⟨#[]⟩, .slice .imm 0 []]
def UV : D := .agg [.str un8, .int .u8 3, .int .i64 0]
def gP (p : Pg) (s e : Nat) : D := .agg [sl 3 (p.vars.map dV), .slice (.own s e) 6 (p.procs.map dP ++ [UP]), .int .u8 p.main.kind, .int .i64 p.main.num, .str p.main.name, sl 4 (p.main.kids.map dN)]
def gV (p : Pg) (s e : Nat) : D := .agg [.slice (.own s e) 3 (p.vars.map dV ++ [UV]), sl 6 (p.procs.map dP), .int .u8 p.main.kind, .int .i64 p.main.num, .str p.main.name, sl 4 (p.main.kids.map dN)]
theorem agg6_strip (A B x y z C : D) : (D.agg [A, B, x, y, z, C]).strip = .agg [A.strip, B.strip, x.strip, y.strip, z.strip, C.strip] := by simp only [D.strip, D.strips]
theorem gP_strip (p : Pg) (s e : Nat) : (gP p s e).strip = dG (addP un8 p) := by
  have h1 := Acc.strip (Acc.own (e := e) (sz := 6) (L := p.procs.map dP ++ [UP]) (lv := [s]) (List.mem_singleton.2 rfl))
  have h2 : (p.procs.map dP ++ [UP]).map D.strip = (p.procs ++ [(⟨un8, [], .mk 57 0 ⟨#[]⟩ []⟩ : Pr)]).map dP := by
    rw [List.map_append, List.map_append, List.map_map, show (D.strip ∘ dP) = dP from funext dP_strip]; rfl
  unfold gP
  rw [agg6_strip, h1, h2, sl_strip (map_strip dV_strip _), sl_strip (map_strip dN_strip _)]
  rfl
theorem gV_strip (p : Pg) (s e : Nat) : (gV p s e).strip = dG (addV un8 p) := by
  have h1 := Acc.strip (Acc.own (e := e) (sz := 3) (L := p.vars.map dV ++ [UV]) (lv := [s]) (List.mem_singleton.2 rfl))
  have h2 : (p.vars.map dV ++ [UV]).map D.strip = (p.vars ++ [(⟨un8, 3, 0⟩ : Vd)]).map dV := by
    rw [List.map_append, List.map_append, List.map_map, show (D.strip ∘ dV) = dV from rfl]; rfl
  unfold gV
  rw [agg6_strip, h1, h2, sl_strip (map_strip dP_strip _), sl_strip (map_strip dN_strip _)]
  rfl
theorem unders_of {m : Nat} : ∀ {l : List D}, (∀ d ∈ l, d.under m = true) → D.unders m l = true
  | [], _ => rfl
  | d :: r, h => by
    have h1 := unders_of (m := m) (l := r) fun x hx => h x (List.mem_cons_of_mem _ hx)
    simp only [D.unders, h d List.mem_cons_self, h1, Bool.and_true]
theorem gP_pl (p : Pg) (s e : Nat) : ((gP p s e).under 0 && (gP p s e).good) = true := by
  have h : D.unders 0 (p.procs.map dP ++ [UP]) = true := unders_of fun d hd => by
    rw [List.mem_append, List.mem_singleton] at hd
    rcases hd with hd | rfl
    · obtain ⟨x, _, rfl⟩ := List.mem_map.1 hd; exact dP_under 0 x
    · rfl
  have : (gP p s e).under 0 = true := by
    unfold gP
    simp only [D.under, D.unders, h, sl_under (map_under (dV_under 0) _), sl_under (map_under (dN_under 0) _), Bool.and_true]
  rw [this]; rfl
theorem gV_pl (p : Pg) (s e : Nat) : ((gV p s e).under 0 && (gV p s e).good) = true := by
  have h : D.unders 0 (p.vars.map dV ++ [UV]) = true := unders_of fun d hd => by
    rw [List.mem_append, List.mem_singleton] at hd
    rcases hd with hd | rfl
    · obtain ⟨x, _, rfl⟩ := List.mem_map.1 hd; rfl
    · rfl
  have : (gV p s e).under 0 = true := by
    unfold gV
    simp only [D.under, D.unders, h, sl_under (map_under (dP_under 0) _), sl_under (map_under (dN_under 0) _), Bool.and_true]
  rw [this]; rfl
theorem p_ne (p : Pg) : dG p ≠ dG (addP un8 p) := by
  intro h
  unfold dG at h
  have h2 := (List.cons.inj (List.cons.inj (D.agg.inj h)).2).1
  unfold sl at h2
  have h3 := (D.slice.inj h2).2.2
  have h4 := congrArg List.length h3
  simp [addP] at h4
/-- the three calls -/
theorem ch_1 {p : Pg} (hv : validB p = true) (σ : St) : chCa p 18 [dG p] σ = some (sl 4 ((checkF p).map dFt), σ) := ch_pure σ (by rw [dG_strip]; exact p_ne p) (by rw [check_fn, if_pos hv])
theorem ch_2 {p : Pg} (s e : Nat) (σ : St) : chCa p 18 [gP p s e] σ = some (.bsl σ.bx.length 0 4 (checkF (addP un8 p)).length, { σ with bx := σ.bx ++ [(checkF (addP un8 p)).flatMap fun f => (dFt f).cells] }) := ch_box σ (gP_strip p s e) (gP_pl p s e)
theorem ch_fn {p' : Pg} {d : D} (hv : validB p' = true) (hs : d.strip = dG p') (hp : (d.under 0 && d.good) = true) : fn EV 18 [d] = some (sl 4 ((checkF p').map dFt)) := by
  rw [fn_strip (args' := [dG p'])]
  · rw [check_fn, if_pos hv]
  · simp only [plain, List.all_cons, List.all_nil, hp, Bool.and_true]
  · simp only [plain, List.all_cons, List.all_nil, dG_pl, Bool.and_true]
  · simp only [List.map_cons, List.map_nil, dG_strip, hs]
theorem ch_3 {p : Pg} (s e : Nat) (hv : validB (addV un8 p) = true) (σ : St) : chCa p 18 [gV p s e] σ = some (sl 4 ((checkF (addV un8 p)).map dFt), σ) := ch_pure σ (by rw [gV_strip]; exact addV_ne p) (ch_fn hv (gV_strip p s e) (gV_pl p s e))

end Go.Proofs.Ytjikokmhknnnoaa
