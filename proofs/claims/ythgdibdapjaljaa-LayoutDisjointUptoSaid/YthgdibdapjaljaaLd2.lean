/- Spans that follow one another: apart, Disjoint. -/
import Derived.Test.YthgdibdapjaljaaLd
import Derived.Test.YthgdibdapjaljaaGap26
import Derived.Test.YthgdibdapjaljaaSz
namespace Go.Proofs.Ythgdibdapjaljaa
open Go.RowKit

theorem ty_layout_span : tyOf Try.prog 100 = some { sz := 2, agg := true, flds := [(0, 1, false), (1, 1, false)], elem := none, zero := some [.int .i64 0, .int .i64 0], bytes := 16 } := by kernel_rfl
noncomputable def fs_layout_span : Array Field := match Try.prog.underlying 100 with | some (.struct fs) => fs | _ => #[]
theorem st_layout_span : Try.prog.underlying 100 = some (.struct fs_layout_span) := by kernel_rfl
theorem sta_layout_span : (fs_layout_span.toList.all fun f => (Try.prog.info? f.type).isSome) = true := by kernel_rfl
theorem und_layout_span : Try.prog.underlying 98 = some (.slice 100) := by kernel_rfl
theorem siz_layout_span : Try.prog.cellsOf 100 = 2 := by kernel_rfl
noncomputable def inf_layout_span : TypeInfo := (Try.prog.info? 100).getD default
theorem inf_layout_span_eq : Try.prog.info? 100 = some inf_layout_span := by kernel_rfl
theorem inf_layout_span_size : inf_layout_span.size = 2 := by kernel_rfl
theorem inf_layout_span_bytes : inf_layout_span.bytes = 16 := by kernel_rfl
theorem inf_layout_span_zero : inf_layout_span.zero.isSome = true := by kernel_rfl
theorem inf_layout_span_zc : (inf_layout_span.zero.map fun z => z.cells.size) = some 2 := by kernel_rfl
theorem any52 : (Try.prog.funcs[52]?).any (fun fn => fn.body.isSome && fn.name != "runtime.NumGoroutine") = true := by kernel_rfl
theorem any25 : (Try.prog.funcs[25]?).any (fun fn => fn.body.isSome && fn.name != "runtime.NumGoroutine") = true := by kernel_rfl
theorem any71 : (Try.prog.funcs[71]?).any (fun fn => fn.body.isSome && fn.name != "runtime.NumGoroutine") = true := by kernel_rfl
theorem any18 : (Try.prog.funcs[18]?).any (fun fn => fn.body.isSome && fn.name != "runtime.NumGoroutine") = true := by kernel_rfl
theorem wrap_i {z : Int} (h1 : -9223372036854775808 ≤ z) (h2 : z ≤ 9223372036854775807) : IntKind.i64.wrap z = z := by
 simp only [IntKind.wrap, IntKind.bits, IntKind.signed]; simp; omega
/-- what apart is asked with -/
structure Apt (L : List (Int × Int)) (first count : Int) : Prop where
 f0 : 0 ≤ first
 f1 : first ≤ 1
 c0 : 0 ≤ count
 c1 : count ≤ 1000000000
 l : L.length ≤ 1000000
 c : Ctg first L (first + count)
set_option maxRecDepth 100000 in
set_option maxHeartbeats 4000000 in
theorem apart_calls {L : List (Int × Int)} {first count : Int} (ha : Apt L first count) {o : Own} {n : Nat} {bx : List (List D)} {nx : Nat} {lv : List Nat} (hun : bx.all (D.unders bx.length) = true) (hrow : L = [] ∨ ∃ s e, o = .own s e ∧ n = 2 ∧ s ∈ lv) {base : Nat} {w0 : World} {ok0 g : Gh} {vs : List Value} {w : World}
  (hr : RW Try.prog base w0 ok0 g (fun i => bx[i]?) (fun s => s < nx) (fun s => s ∈ lv) w) (hv : vals w g [.slice o n (L.map dSp), .int .i64 first, .int .i64 count] vs) :
  Calls Try.prog 52 vs.toArray w fun e w' => ∃ v g', e = .returned v ∧ RW Try.prog base w0 ok0 g' (fun i => bx[i]?) (fun s => s < nx) (fun s => s ∈ lv) w' ∧ Ext g w g' w' ∧ val w' g' (.bool true) v := by
 obtain ⟨hf0, hf1, hc0, hc1, hl, hc⟩ := ha
 refine S_callT (f := _) (nx' := nx) (lv' := lv) Try.func52 rfl hun rfl ?_ hr hv
 clear hr hv
 simp only [enterSt, Try.ntmps52, zlc, zln, Nat.reduceAdd, Nat.reduceSub, zr1, zr0, zca, zna]
 refine S_seq ?_
 refine S_of_X EV_ok (by kernel_rfl) ?_
 refine X_rg fun R hR => ?_
 simp only [aops, astep, awant, aeff, aop, ev, ofValue, St.put, zgd, zmo, if_true, zs1, zs0]
 with_reducible refine hR _ ?_
 clear hR R
 show S _ _ _ _ _
 refine S_seq ?_
 have hso := fun fr bx nx => sortCa_eq (L := L) (o := o) (n := n) (σ := ⟨fr, bx, nx, lv⟩) hc.sorted hl hrow
 refine S_rg CaOk.sortSp (by kernel_rfl) fun R hR => ?_
 simp only [aops, astep, awant, aeff, aop, ev, St.put, zmc, zmn, zg1, zg0, zgd, zmo, if_true, zs1, zs0, zca, zna, any71, hso]
 with_reducible refine hR _ ?_
 clear hR R
 show S _ _ _ _ _
 refine S_seq ?_
 refine S_of_X EV_ok (by kernel_rfl) ?_
 refine X_rg fun R hR => ?_
 simp only [inr_i64, Int.reduceLE, Int.reduceNeg, aops, astep, awant, aeff, aop, ev, ofValue, St.put, zgd, zmo, if_true, zs1, zs0, and_self]
 with_reducible refine hR _ ?_
 clear hR R
 show S _ _ _ _ _
 refine S_seq ?_
 refine S_seq ?_
 refine S_of_X EV_ok (by kernel_rfl) ?_
 refine X_rg fun R hR => ?_
 simp only [EVP, inr_i64, Int.reduceLE, Int.reduceNeg, aops, astep, awant, aeff, aop, ev, ofValue, St.put, zg1, zg0, zgd, zmo, if_true, zs1, zs0, zlm, and_self, und_layout_span]
 with_reducible refine hR _ ?_
 clear hR R
 show S _ _ _ _ _
 refine S_block ?_
 refine S_loop (fun m σ => ∃ (i : Nat) (used : Int) (r : List (List D)), σ = ⟨[slotOf σ 0, .int .i64 first, .int .i64 count, slotOf σ 3, slotOf σ 4, slotOf σ 5, slotOf σ 6, .int .i64 used, slotOf σ 8, slotOf σ 9, slotOf σ 10, slotOf σ 11, slotOf σ 12, .slice o n (L.map dSp), .int .i64 L.length, .int .i64 i, slotOf σ 16, slotOf σ 17, slotOf σ 18, slotOf σ 19, slotOf σ 20, slotOf σ 21, slotOf σ 22, slotOf σ 23, slotOf σ 24, slotOf σ 25, slotOf σ 26, slotOf σ 27, slotOf σ 28, slotOf σ 29, slotOf σ 30, slotOf σ 31, slotOf σ 32, slotOf σ 33, slotOf σ 34, slotOf σ 35, slotOf σ 36, slotOf σ 37, slotOf σ 38, slotOf σ 39, slotOf σ 40, slotOf σ 41, slotOf σ 42, slotOf σ 43, slotOf σ 44, slotOf σ 45, slotOf σ 46, slotOf σ 47, slotOf σ 48, slotOf σ 49, slotOf σ 50, slotOf σ 51, slotOf σ 52], r, nx, lv⟩ ∧ m = L.length - i ∧ i ≤ L.length ∧ 0 ≤ used ∧ used ≤ count ∧ Hid (Ctg (first + used) (L.drop i) (first + count)) ∧ (∃ r0, r = bx ++ r0)) ?_ (L.length) ?_
 rotate_left
 ·exact ⟨0, 0, bx, rfl, rfl, Nat.zero_le _, Int.le_refl _, by omega, Lib.hid (by rw [Int.add_zero]; exact hc), [], by simp⟩
 rintro m σ ⟨i, used, r, hσ, rfl, hi, hu0, hu1, hct, hbx⟩
 generalize slotOf σ = x at hσ
 subst hσ
 refine S_seq ?_
 refine S_of_X EV_ok (by kernel_rfl) ?_
 refine X_rg fun R hR => ?_
 simp only [nat_lt, aops, astep, awant, aeff, aop, abin, aint, ev, St.put, zg1, zg0, zgd, zmo, if_true, zs1, zs0]
 with_reducible refine hR _ ?_
 clear hR R
 show S _ _ _ _ _
 refine S_seq ?_
 refine S_ite (by simp only [ev, zg1, zg0, zgd]; exact rfl) ?_ ?_
 ·intro b1
  have c1 := b1
  try simp only [decide_eq_true_eq] at c1
  refine S_skip ?_
  show S _ _ _ _ _
  refine S_seq ?_
  refine S_block ?_
  refine S_seq ?_
  have hlt : i < L.length := by first | assumption | omega
  have hdr := hct.out
  rw [List.drop_eq_getElem_cons hlt] at hdr
  obtain ⟨q1, q2, q3⟩ := hdr
  have q4 := q3.le
  have e2 : (L.map dSp)[i]? = some (.agg [.int .i64 (first + used), .int .i64 L[i].2]) := by rw [List.getElem?_map, List.getElem?_eq_getElem hlt, zmo, dSp, q1]
  have hn2 : (n = 2) = True := eq_true (hrow.elim (fun q => absurd (by rw [q] at hlt; exact hlt) (Nat.not_lt_zero i)) (fun ⟨_, _, _, q, _⟩ => q))
  refine S_of_X EV_ok (by kernel_rfl) ?_
  refine X_rg fun R hR => ?_
  simp only [EVP, app_get0, app_set0, nat_lt, nat_0, nat_to, aops, astep, awant, aeff, aop, astore, ev, St.put, gd_agg, ia_agg, cl_agg, zg1, zg0, zgd, zmo, zbs, if_true, zs1, zs0, zlm, zlc, zln, zd1, zd0, zt0, zca, zna, Nat.reduceAdd, Nat.reduceLeDiff, Nat.zero_add, and_self, decide_true, zis, ty_layout_span, und_layout_span, siz_layout_span, inf_layout_span_eq, hlt, hn2, e2]
  with_reducible refine hR _ ?_
  clear hR R
  show S _ _ _ _ _
  refine S_seq ?_
  refine S_seq ?_
  have d1 : decide (first + used < first) = false := by simp; omega
  refine S_of_X EV_ok (by kernel_rfl) ?_
  refine X_rg fun R hR => ?_
  simp only [EVP, app_get0, aops, astep, awant, aeff, aop, abin, aint, mkD, ev, St.put, ia_int, zg1, zg0, zgd, zmo, if_true, zs1, zs0, zlc, zln, zd0, zt1, zt0, Nat.reduceAdd, Nat.reduceLeDiff, Nat.zero_add, Nat.add_zero, zft, if_false, reduceCtorEq, ty_int, ty_layout_span, d1]
  with_reducible refine hR _ ?_
  clear hR R
  show S _ _ _ _ _
  refine S_false (by simp only [ev, zg1, zg0, zgd]) ?_
  refine S_skip ?_
  show S _ _ _ _ _
  refine S_seq ?_
  have w1 : IntKind.i64.wrap (first + used - first) = used := by rw [wrap_i (by omega) (by omega)]; omega
  refine S_of_X EV_ok (by kernel_rfl) ?_
  refine X_rg fun R hR => ?_
  simp only [EVP, app_get0, aops, astep, awant, aeff, aop, abin, aint, mkD, ev, St.put, ia_int, zg1, zg0, zgd, zmo, if_true, zs1, zs0, zlc, zln, zd0, zt1, zt0, Nat.reduceAdd, Nat.reduceLeDiff, Nat.zero_add, Nat.add_zero, zft, if_false, reduceCtorEq, ty_int, ty_layout_span, w1]
  with_reducible refine hR _ ?_
  clear hR R
  show S _ _ _ _ _
  refine S_seq ?_
  refine S_seq ?_
  have d2 : decide (used < used) = false := by simp
  have d3 : decide (used ≥ count) = false := by simp; omega
  have d4 : decide (L[i].2 < 1) = false := by simp; omega
  have w2 : IntKind.i64.wrap (count - used) = count - used := wrap_i (by omega) (by omega)
  have d5 : decide (L[i].2 > count - used) = false := by simp; omega
  refine S_of_X EV_ok (by kernel_rfl) ?_
  refine X_rg fun R hR => ?_
  simp only [EVP, inr_i64, Int.reduceLE, Int.reduceNeg, app_get0, aops, astep, awant, aeff, aop, abin, aint, mkD, ev, ofValue, St.put, ia_int, zg1, zg0, zgd, zmo, zbs, if_true, zs1, zs0, zlc, zln, zd1, zd0, zt1, zt0, Nat.reduceAdd, Nat.reduceLeDiff, Nat.zero_add, zft, if_false, and_self, reduceCtorEq, beq_self_eq_true, ty_int, ty_layout_span, d2, d3, d4, w2, d5]
  with_reducible refine hR _ ?_
  clear hR R
  show S _ _ _ _ _
  refine S_false (by simp only [ev, zg1, zg0, zgd]) ?_
  refine S_skip ?_
  show S _ _ _ _ _
  have w3 : IntKind.i64.wrap (used + L[i].2) = used + L[i].2 := wrap_i (by omega) (by omega)
  refine S_of_X EV_ok (by kernel_rfl) ?_
  refine X_rg fun R hR => ?_
  simp only [EVP, app_get0, aops, astep, awant, aeff, aop, abin, aint, mkD, ev, St.put, ia_int, zg1, zg0, zgd, zmo, if_true, zs1, zs0, zlc, zln, zd1, zd0, zt1, zt0, Nat.reduceAdd, Nat.reduceLeDiff, Nat.zero_add, zft, if_false, reduceCtorEq, ty_int, ty_layout_span, w3]
  with_reducible refine hR _ ?_
  clear hR R
  show S _ _ _ _ _
  have hbig : i < 9223372036854775807 := by omega
  refine S_of_X EV_ok (by kernel_rfl) ?_
  refine X_rg fun R hR => ?_
  simp only [inr_i64, Int.reduceLE, Int.reduceNeg, aops, astep, awant, aeff, aop, abin, aint, ev, ofValue, St.put, zg1, zg0, zgd, zmo, if_true, zs1, zs0, and_self, nat_succ hbig]
  with_reducible refine hR _ ?_
  clear hR R
  show ∃ m, m < _ ∧ _
  obtain ⟨r0, rfl⟩ := hbx
  exact ⟨L.length - (i + 1), by omega, i + 1, used + L[i].2, _, rfl, rfl, by omega, by omega, by omega, Lib.hid (by rw [← Int.add_assoc]; exact q3), _, zaa _ _ _⟩
 ·intro b2
  have c2 := b2
  try simp only [decide_eq_false_iff_not] at c2
  refine S_exit ?_
  show S _ _ _ _ _
  refine S_seq ?_
  refine S_of_X EV_ok (by kernel_rfl) ?_
  refine X_rg fun R hR => ?_
  simp only [aops, astep, awant, aeff, aop, ev, ofValue, St.put, zgd, zmo, if_true, zs1, zs0, b2]
  with_reducible refine hR _ ?_
  clear hR R
  show S _ _ _ _ _
  refine S_ret ?_
  refine ⟨.inr rfl, ?_, hbx, rfl, rfl⟩
  simp only [resD, resAll, resOne, resTup, Try.results52, zg1, zg0, D.good, if_true, zmo]
/-- the call of apart on a row of one's own -/
noncomputable def apartCa : Nat → List D → St → Option (D × St) := fun k args σ => open Classical in if k = 52 ∧ ∃ (L : List (Int × Int)) (o : Own) (n : Nat) (first count : Int), args = [.slice o n (L.map dSp), .int .i64 first, .int .i64 count] ∧ Apt L first count ∧ (L = [] ∨ ∃ s e, o = .own s e ∧ n = 2 ∧ s ∈ σ.lv) ∧ σ.bx.all (D.unders σ.bx.length) = true then some (.bool true, σ) else none
theorem apartCa_eq {L : List (Int × Int)} {o : Own} {n : Nat} {first count : Int} {σ : St} (h1 : Apt L first count) (h2 : L = [] ∨ ∃ s e, o = .own s e ∧ n = 2 ∧ s ∈ σ.lv) (h3 : σ.bx.all (D.unders σ.bx.length) = true) : apartCa 52 [.slice o n (L.map dSp), .int .i64 first, .int .i64 count] σ = some (.bool true, σ) := by
 unfold apartCa
 rw [if_pos ⟨rfl, L, o, n, first, count, rfl, h1, h2, h3⟩]
theorem CaOk.apart : CaOk Try.prog apartCa := by
 intro base w0 ok0 k args σ d σ' q
 unfold apartCa at q
 split at q
 ·rename_i hh
  obtain ⟨rfl, L, o, n, first, count, rfl, h1, h2, h3⟩ := hh
  cases q
  exact ⟨rfl, fun g vs w hr hv => apart_calls h1 h3 h2 hr hv⟩
 ·cases q

/-- two rows of one's own -/
structure Two (e : TypeId) (sz : Nat) (o : Own) (n : Nat) (L : List D) (o2 : Own) (n2 : Nat) (M : List D) (nx : Nat) (lv : List Nat) : Prop where
 a : AccB e sz o n L nx lv
 b : AccB e sz o2 n2 M nx lv
 ne : ∀ s e1 e2, o = .own s e1 → o2 ≠ .own s e2
theorem Two.swap {e : TypeId} {sz n n2 nx : Nat} {o o2 : Own} {L M : List D} {lv : List Nat} (h : Two e sz o n L o2 n2 M nx lv) : Two e sz o2 n2 M o n L nx lv := ⟨h.b, h.a, fun s e1 e2 q q2 => h.ne s e2 e1 q2 q⟩
theorem Two.app1 {P : Program} {t e : TypeId} {i : TypeInfo} {sz n n2 nx : Nat} {o o2 : Own} {L M : List D} {lv : List Nat} (h : Two e sz o n L o2 n2 M nx lv) (hu : P.underlying t = some (.slice e)) (hi : P.info? e = some i) (hs : i.size = sz) (hp : 0 < sz) (hb : i.bytes ≤ 4096) (hz : (i.zero.map fun z => z.cells.size) = some sz) (x : D)
  (hl : L.length + 1 ≤ 16777216) : ∃ lv', Two e sz (.own (nx + 1) e) sz (L ++ [x]) o2 n2 M (nx + 1 + 1) lv' ∧ ∀ fr bx, aappend P ⟨fr, bx, nx + 1, nx :: lv⟩ t (.slice o n L) (.slice (.own nx e) sz [x]) = some (.slice (.own (nx + 1) e) sz (L ++ [x]), ⟨fr, bx, nx + 1 + 1, lv'⟩) := by
 refine ⟨(nx + 1) :: o.cut (nx :: lv), ⟨.own List.mem_cons_self (by omega), ⟨?_, fun s e' q => by have := h.b.b s e' q; omega⟩, fun s e1 e2 q q2 => by cases q; have := h.b.b _ _ q2; omega⟩, fun fr bx => Acc.app (σ := ⟨fr, bx, nx + 1, nx :: lv⟩) (o2 := .own nx e) (l2 := [x]) (h.a.a.more nx) hu hi hs hp hb hz hl (by simp)⟩
 rcases h.b.a with q | ⟨st, q1, q2, q3⟩
 ·exact .inl q
 ·refine .inr ⟨st, q1, List.mem_cons_of_mem _ ?_, q3⟩
  cases o with
  | own s e' =>
   refine List.mem_filter.2 ⟨List.mem_cons_of_mem _ q2, ?_⟩
   have := h.ne s e' e rfl
   simp only [bne_iff_ne, ne_eq]
   intro q
   exact this (by rw [q1, q])
  | _ => exact List.mem_cons_of_mem _ q2
theorem AccB.mine {e : TypeId} {n nx : Nat} {o : Own} {C : List (Int × Int)} {lv : List Nat} (h : AccB e 2 o n (C.map dSp) nx lv) : C = [] ∨ ∃ s e, o = .own s e ∧ n = 2 ∧ s ∈ lv := by
 rcases h.a with ⟨_, q, _⟩ | ⟨st, q1, q2, q3⟩
 ·exact .inl (by simpa using q)
 ·exact .inr ⟨st, e, q1, q3, q2⟩
theorem cSp_step {l : List Slt} {i : Nat} (h : i < l.length) : cSp (l.take (i + 1)) = cSp (l.take i) ++ (if l[i].kind = 1 then [(l[i].off, 1)] else if l[i].kind = 2 then [(l[i].off, l[i].len)] else []) := by
 rw [List.take_succ_eq_append_getElem h, cSp_snoc]
theorem sSp_step {l : List Slt} {i : Nat} (h : i < l.length) : sSp (l.take (i + 1)) = sSp (l.take i) ++ (if l[i].kind = 3 then [(l[i].off, 1)] else []) := by
 rw [List.take_succ_eq_append_getElem h, sSp_snoc]
theorem cSp_len : ∀ l : List Slt, (cSp l).length ≤ l.length
 | [] => Nat.le_refl _
 | x :: r => by have := cSp_len r; simp only [cSp]; split <;> (try split) <;> simp only [zlc] <;> omega
theorem sSp_len : ∀ l : List Slt, (sSp l).length ≤ l.length
 | [] => Nat.le_refl _
 | x :: r => by have := sSp_len r; simp only [sSp]; split <;> simp only [zlc] <;> omega
theorem cSum_step {l : List Slt} {i : Nat} (h : i < l.length) : cSum (l.take (i + 1)) = cSum (l.take i) + (if l[i].kind = 1 then 1 else if l[i].kind = 2 then l[i].len else 0) := by
 rw [List.take_succ_eq_append_getElem h, cSum_snoc]
theorem sSum_step {l : List Slt} {i : Nat} (h : i < l.length) : sSum (l.take (i + 1)) = sSum (l.take i) + (if l[i].kind = 3 then 1 else 0) := by
 rw [List.take_succ_eq_append_getElem h, sSum_snoc]
set_option maxRecDepth 100000 in
set_option maxHeartbeats 4000000 in
theorem disj_pc (f : Fm) (hJ : Jf f) (hl : f.slots.length ≤ 900100) : PContract Try.prog 25 [dFm f] (.bool true) := by
 have hb := hJ.bd
 refine S_pure (f := _) Try.func25 rfl (by simp only [List.all_cons, List.all_nil, dFm_pl, Bool.and_true]) (by simp only [zmc, zmn, dFm_strip]) ?_
 simp only [enterSt, Try.ntmps25, zlc, zln, Nat.reduceAdd, Nat.reduceSub, zr1, zr0, zca, zna]
 refine S_seq ?_
 refine S_of_X EV_ok (by kernel_rfl) ?_
 refine X_rg fun R hR => ?_
 simp only [aops, astep, awant, aeff, aop, ev, ofValue, St.put, gd_agg, cl_agg, zg0, zgd, zmo, if_true, zs1, zs0, zln, zna, sl, dFm]
 with_reducible refine hR _ ?_
 clear hR R
 show S _ _ _ _ _
 refine S_seq ?_
 refine S_of_X EV_ok (by kernel_rfl) ?_
 refine X_rg fun R hR => ?_
 simp only [aops, astep, awant, aeff, aop, ev, ofValue, St.put, zgd, zmo, if_true, zs1, zs0]
 with_reducible refine hR _ ?_
 clear hR R
 show S _ _ _ _ _
 refine S_seq ?_
 refine S_seq ?_
 refine S_of_X EV_ok (by kernel_rfl) ?_
 refine X_rg fun R hR => ?_
 simp only [EVP, inr_i64, Int.reduceLE, Int.reduceNeg, aops, astep, awant, aeff, aop, mkD, ev, ofValue, St.put, ia_slice, zg1, zg0, zgd, zmo, if_true, zs1, zs0, zlm, zlc, zln, zd0, zt1, zt0, Nat.reduceAdd, Nat.reduceLeDiff, Nat.zero_add, Nat.add_zero, zft, if_false, and_self, reduceCtorEq, ty_s_layout_Slot, ty_layout_Frame, und_layout_Slot]
 with_reducible refine hR _ ?_
 clear hR R
 show S _ _ _ _ _
 refine S_block ?_
 refine S_loop (fun m σ => ∃ (i : Nat) (C : List (Int × Int)) (K2 : List (Int × Int)) (o : Own) (n : Nat) (o2 : Own) (n2 : Nat) (r : List (List D)) (nx : Nat) (lv : List Nat), σ = ⟨[slotOf σ 0, .ptr 0 0, slotOf σ 2, .slice o n (C.map dSp), .slice o2 n2 (K2.map dSp), slotOf σ 5, slotOf σ 6, slotOf σ 7, .slice .imm (if (f.slots.map dSl).isEmpty = true then 0 else 4) (f.slots.map dSl), .int .i64 f.slots.length, .int .i64 i, slotOf σ 11, slotOf σ 12, slotOf σ 13, slotOf σ 14, slotOf σ 15, slotOf σ 16, slotOf σ 17, slotOf σ 18, slotOf σ 19, slotOf σ 20, slotOf σ 21, slotOf σ 22, slotOf σ 23, slotOf σ 24, slotOf σ 25, slotOf σ 26, slotOf σ 27, slotOf σ 28, slotOf σ 29, slotOf σ 30, slotOf σ 31, slotOf σ 32, slotOf σ 33, slotOf σ 34, slotOf σ 35, slotOf σ 36, slotOf σ 37, slotOf σ 38, slotOf σ 39, slotOf σ 40, slotOf σ 41, slotOf σ 42, slotOf σ 43, slotOf σ 44, slotOf σ 45, slotOf σ 46, slotOf σ 47, slotOf σ 48, slotOf σ 49, slotOf σ 50, slotOf σ 51, slotOf σ 52], [.slice .imm (if (f.slots.map dSl).isEmpty = true then 0 else 4) (f.slots.map dSl), .int .i64 f.cells, .int .i64 f.stacks] :: r, nx, lv⟩ ∧ m = f.slots.length - i ∧ i ≤ f.slots.length ∧ Hid (Two 100 2 o n (C.map dSp) o2 n2 (K2.map dSp) nx lv) ∧ C = cSp (f.slots.take i) ∧ K2 = sSp (f.slots.take i) ∧ (∀ m, r.all (D.unders m) = true)) ?_ (f.slots.length) ?_
 rotate_left
 ·exact ⟨0, [], [], .nil, 0, .nil, 0, [], 0, [], rfl, rfl, Nat.zero_le _, Lib.hid ⟨.nil _ _ _ _, .nil _ _ _ _, fun s e1 e2 q => by cases q⟩, rfl, rfl, fun m => rfl⟩
 rintro m σ ⟨i, C, K2, o, n, o2, n2, r, nx, lv, hσ, rfl, hi, h2, hC, hS, hr0⟩
 generalize slotOf σ = x at hσ
 subst hσ
 refine S_seq ?_
 refine S_of_X EV_ok (by kernel_rfl) ?_
 refine X_rg fun R hR => ?_
 simp only [nat_lt, aops, astep, awant, aeff, aop, abin, aint, ev, St.put, zg1, zg0, zgd, zmo, if_true, zs1, zs0]
 with_reducible refine hR _ ?_
 clear hR R
 show S _ _ _ _ _
 refine S_seq ?_
 refine S_ite (by simp only [ev, zg1, zg0, zgd]; exact rfl) ?_ ?_
 ·intro b1
  have c1 := b1
  try simp only [decide_eq_true_eq] at c1
  refine S_skip ?_
  show S _ _ _ _ _
  refine S_seq ?_
  refine S_block ?_
  refine S_seq ?_
  have hlt : i < f.slots.length := by first | assumption | omega
  have hn4 : ((if (f.slots.map dSl).isEmpty = true then 0 else 4) = 4) = True := eq_true (sl_n (j := i) (by simpa using hlt))
  have e4 : (f.slots.map dSl)[i]? = some (.agg [.str f.slots[i].name, .int .u8 f.slots[i].kind, .int .i64 f.slots[i].len, .int .i64 f.slots[i].off]) := by rw [List.getElem?_map, List.getElem?_eq_getElem hlt]; rfl
  have hcl := cSp_len (f.slots.take i)
  have hsl := sSp_len (f.slots.take i)
  rw [← hC] at hcl
  rw [← hS] at hsl
  rw [List.length_take] at hcl hsl
  refine S_of_X EV_ok (by kernel_rfl) ?_
  refine X_rg fun R hR => ?_
  simp only [EVP, app_get0, app_set0, nat_lt, nat_0, nat_to, aops, astep, awant, aeff, aop, astore, ev, St.put, gd_agg, ia_agg, cl_agg, zg1, zg0, zgd, zmo, zbs, if_true, zs1, zs0, zlm, zlc, zln, zd1, zd0, zt0, zca, zna, Nat.reduceAdd, Nat.reduceLeDiff, Nat.zero_add, and_self, decide_true, zis, ty_layout_Slot, und_layout_Slot, siz_layout_Slot, inf_layout_Slot_eq, hlt, hn4, e4]
  with_reducible refine hR _ ?_
  clear hR R
  show S _ _ _ _ _
  refine S_seq ?_
  refine S_of_X EV_ok (by kernel_rfl) ?_
  refine X_rg fun R hR => ?_
  simp only [EVP, app_get0, aops, astep, awant, aeff, aop, mkD, ev, St.put, ia_int, zg1, zg0, zgd, zmo, if_true, zs1, zs0, zlc, zln, zd1, zd0, zt1, zt0, Nat.reduceAdd, Nat.reduceLeDiff, Nat.zero_add, zft, if_false, reduceCtorEq, ty_uint8, ty_layout_Slot]
  with_reducible refine hR _ ?_
  clear hR R
  show S _ _ _ _ _
  refine S_block ?_
  refine S_seq ?_
  refine S_of_X EV_ok (by kernel_rfl) ?_
  refine X_rg fun R hR => ?_
  simp only [inr_u8, Int.reduceLE, aops, astep, awant, aeff, aop, abin, aint, ev, ofValue, St.put, zg1, zg0, zgd, zmo, if_true, zs1, zs0, and_self]
  with_reducible refine hR _ ?_
  clear hR R
  show S _ _ _ _ _
  refine S_ite (by simp only [ev, zg1, zg0, zgd]; exact rfl) ?_ ?_
  ·intro b2
   have c2 := b2
   try simp only [beq_iff_eq] at c2
   obtain ⟨lv5, h5, hap⟩ := h2.out.app1 (P := Try.prog) (t := 98) und_layout_span inf_layout_span_eq inf_layout_span_size (by omega) (by rw [inf_layout_span_bytes]; omega) inf_layout_span_zc (dSp (f.slots[i].off, 1)) (by simp only [zlm]; omega)
   simp only [dSp] at hap
   refine S_of_X EV_ok (by kernel_rfl) ?_
   refine X_rg fun R hR => ?_
   simp only [EVP, inr_i64, Int.reduceLE, Int.reduceNeg, app_get0, aops, astep, awant, aeff, aop, mkD, afill, abuild, ev, ofValue, St.put, gd_int, ia_int, cl_int, gd_agg, cl_agg, zmc, zmn, zg1, zg0, zgd, zmo, if_true, zs1, zs0, zlc, zln, zd1, zd0, zt1, zt0, zca, zna, Nat.reduceAdd, Nat.reduceLeDiff, Nat.reduceLT, Nat.zero_add, Bool.and_true, zft, if_false, and_self, reduceCtorEq, List.all_cons, List.all_nil, beq_self_eq_true, Nat.reduceMul, rng_1, ty_int, ty_layout_Slot, ty_layout_span, st_layout_span, sta_layout_span, und_layout_span, inf_layout_span_eq, inf_layout_span_size, inf_layout_span_zero, b2, hap]
   with_reducible refine hR _ ?_
   clear hR R
   show S _ _ _ _ _
   have hbig : i < 9223372036854775807 := by omega
   refine S_of_X EV_ok (by kernel_rfl) ?_
   refine X_rg fun R hR => ?_
   simp only [inr_i64, Int.reduceLE, Int.reduceNeg, aops, astep, awant, aeff, aop, abin, aint, ev, ofValue, St.put, zg1, zg0, zgd, zmo, if_true, zs1, zs0, and_self, nat_succ hbig]
   with_reducible refine hR _ ?_
   clear hR R
   show ∃ m, m < _ ∧ _
   have hk : f.slots[i].kind = 1 := by first | assumption | (simp_all; done)
   exact ⟨f.slots.length - (i + 1), by omega, i + 1, C ++ [(f.slots[i].off, 1)], K2, _, _, o2, n2, _, _, lv5, by rw [List.map_append]; rfl, rfl, by omega, Lib.hid (by rw [List.map_append]; exact h5), by rw [hC, cSp_step hlt, hk]; simp, by rw [hS, sSp_step hlt, hk]; simp, fun m => by rw [List.all_append, hr0 m]; rfl⟩
  ·intro b3
   have c3 := b3
   try simp only [ne_eq, beq_eq_false_iff_ne] at c3
   refine S_seq ?_
   refine S_of_X EV_ok (by kernel_rfl) ?_
   refine X_rg fun R hR => ?_
   simp only [inr_u8, Int.reduceLE, aops, astep, awant, aeff, aop, abin, aint, ev, ofValue, St.put, zg1, zg0, zgd, zmo, if_true, zs1, zs0, and_self, b3]
   with_reducible refine hR _ ?_
   clear hR R
   show S _ _ _ _ _
   refine S_ite (by simp only [ev, zg1, zg0, zgd]; exact rfl) ?_ ?_
   ·intro b4
    have c4 := b4
    try simp only [beq_iff_eq] at c4
    obtain ⟨lv5, h5, hap⟩ := h2.out.app1 (P := Try.prog) (t := 98) und_layout_span inf_layout_span_eq inf_layout_span_size (by omega) (by rw [inf_layout_span_bytes]; omega) inf_layout_span_zc (dSp (f.slots[i].off, f.slots[i].len)) (by simp only [zlm]; omega)
    simp only [dSp] at hap
    refine S_of_X EV_ok (by kernel_rfl) ?_
    refine X_rg fun R hR => ?_
    simp only [EVP, app_get0, aops, astep, awant, aeff, aop, mkD, afill, abuild, ev, ofValue, St.put, gd_int, ia_int, cl_int, gd_agg, cl_agg, zmc, zmn, zg1, zg0, zgd, zmo, if_true, zs1, zs0, zlc, zln, zd1, zd0, zt1, zt0, zca, zna, Nat.reduceAdd, Nat.reduceLeDiff, Nat.reduceLT, Nat.zero_add, Bool.and_true, zft, if_false, and_self, reduceCtorEq, List.all_cons, List.all_nil, beq_self_eq_true, Nat.reduceMul, rng_1, ty_int, ty_layout_Slot, ty_layout_span, st_layout_span, sta_layout_span, und_layout_span, inf_layout_span_eq, inf_layout_span_size, inf_layout_span_zero, b4, hap]
    with_reducible refine hR _ ?_
    clear hR R
    show S _ _ _ _ _
    have hbig : i < 9223372036854775807 := by omega
    refine S_of_X EV_ok (by kernel_rfl) ?_
    refine X_rg fun R hR => ?_
    simp only [inr_i64, Int.reduceLE, Int.reduceNeg, aops, astep, awant, aeff, aop, abin, aint, ev, ofValue, St.put, zg1, zg0, zgd, zmo, if_true, zs1, zs0, and_self, nat_succ hbig]
    with_reducible refine hR _ ?_
    clear hR R
    show ∃ m, m < _ ∧ _
    have hk : f.slots[i].kind = 2 := by first | assumption | (simp_all; done)
    exact ⟨f.slots.length - (i + 1), by omega, i + 1, C ++ [(f.slots[i].off, f.slots[i].len)], K2, _, _, o2, n2, _, _, lv5, by rw [List.map_append]; rfl, rfl, by omega, Lib.hid (by rw [List.map_append]; exact h5), by rw [hC, cSp_step hlt, hk]; simp, by rw [hS, sSp_step hlt, hk]; simp, fun m => by rw [List.all_append, hr0 m]; rfl⟩
   ·intro b5
    have c5 := b5
    try simp only [ne_eq, beq_eq_false_iff_ne] at c5
    refine S_seq ?_
    refine S_of_X EV_ok (by kernel_rfl) ?_
    refine X_rg fun R hR => ?_
    simp only [inr_u8, Int.reduceLE, aops, astep, awant, aeff, aop, abin, aint, ev, ofValue, St.put, zg1, zg0, zgd, zmo, if_true, zs1, zs0, and_self, b5]
    with_reducible refine hR _ ?_
    clear hR R
    show S _ _ _ _ _
    refine S_ite (by simp only [ev, zg1, zg0, zgd]; exact rfl) ?_ ?_
    ·intro b6
     have c6 := b6
     try simp only [beq_iff_eq] at c6
     obtain ⟨lv5, h5, hap⟩ := h2.out.swap.app1 (P := Try.prog) (t := 98) und_layout_span inf_layout_span_eq inf_layout_span_size (by omega) (by rw [inf_layout_span_bytes]; omega) inf_layout_span_zc (dSp (f.slots[i].off, 1)) (by simp only [zlm]; omega)
     simp only [dSp] at hap
     refine S_of_X EV_ok (by kernel_rfl) ?_
     refine X_rg fun R hR => ?_
     simp only [EVP, inr_i64, Int.reduceLE, Int.reduceNeg, app_get0, aops, astep, awant, aeff, aop, mkD, afill, abuild, ev, ofValue, St.put, gd_int, ia_int, cl_int, gd_agg, cl_agg, zmc, zmn, zg1, zg0, zgd, zmo, if_true, zs1, zs0, zlc, zln, zd1, zd0, zt1, zt0, zca, zna, Nat.reduceAdd, Nat.reduceLeDiff, Nat.reduceLT, Nat.zero_add, Bool.and_true, zft, if_false, and_self, reduceCtorEq, List.all_cons, List.all_nil, beq_self_eq_true, Nat.reduceMul, rng_1, ty_int, ty_layout_Slot, ty_layout_span, st_layout_span, sta_layout_span, und_layout_span, inf_layout_span_eq, inf_layout_span_size, inf_layout_span_zero, b6, hap]
     with_reducible refine hR _ ?_
     clear hR R
     show S _ _ _ _ _
     have hbig : i < 9223372036854775807 := by omega
     refine S_of_X EV_ok (by kernel_rfl) ?_
     refine X_rg fun R hR => ?_
     simp only [inr_i64, Int.reduceLE, Int.reduceNeg, aops, astep, awant, aeff, aop, abin, aint, ev, ofValue, St.put, zg1, zg0, zgd, zmo, if_true, zs1, zs0, and_self, nat_succ hbig]
     with_reducible refine hR _ ?_
     clear hR R
     show ∃ m, m < _ ∧ _
     have hk : f.slots[i].kind = 3 := by first | assumption | (simp_all; done)
     exact ⟨f.slots.length - (i + 1), by omega, i + 1, C, K2 ++ [(f.slots[i].off, 1)], o, n, _, _, _, _, lv5, by rw [List.map_append]; rfl, rfl, by omega, Lib.hid (by rw [List.map_append]; exact h5.swap), by rw [hC, cSp_step hlt, hk]; simp, by rw [hS, sSp_step hlt, hk]; simp, fun m => by rw [List.all_append, hr0 m]; rfl⟩
    ·intro b7
     have c7 := b7
     try simp only [ne_eq, beq_eq_false_iff_ne] at c7
     exfalso
     have hk := hJ.k _ (List.getElem_mem hlt)
     rcases hk with h | h | h <;> simp_all
 ·intro b8
  have c8 := b8
  try simp only [decide_eq_false_iff_not] at c8
  refine S_exit ?_
  show S _ _ _ _ _
  refine S_seq ?_
  have hil : i = f.slots.length := by first | omega | (simp_all; omega)
  rw [hil, List.take_length] at hC hS
  have hcl := cSp_len f.slots
  have hsl := sSp_len f.slots
  have hun : ([.slice .imm (if (f.slots.map dSl).isEmpty = true then 0 else 4) (f.slots.map dSl), .int .i64 f.cells, .int .i64 f.stacks] :: r).all (D.unders ([.slice .imm (if (f.slots.map dSl).isEmpty = true then 0 else 4) (f.slots.map dSl), .int .i64 f.cells, .int .i64 f.stacks] :: r).length) = true := by rw [List.all_cons, hr0, show D.unders _ [.slice .imm (if (f.slots.map dSl).isEmpty = true then 0 else 4) (f.slots.map dSl), .int .i64 f.cells, .int .i64 f.stacks] = (dFm f).under _ from rfl, dFm_under]; rfl
  have a1 := fun fr => apartCa_eq (L := C) (o := o) (n := n) (first := 0) (count := f.cells) (σ := ⟨fr, [.slice .imm (if (f.slots.map dSl).isEmpty = true then 0 else 4) (f.slots.map dSl), .int .i64 f.cells, .int .i64 f.stacks] :: r, nx, lv⟩) ⟨by omega, by omega, by omega, by omega, by rw [hC]; omega, by rw [hC, Int.zero_add]; exact hJ.c⟩ h2.out.a.mine hun
  have a2 := fun fr => apartCa_eq (L := K2) (o := o2) (n := n2) (first := 1) (count := f.stacks) (σ := ⟨fr, [.slice .imm (if (f.slots.map dSl).isEmpty = true then 0 else 4) (f.slots.map dSl), .int .i64 f.cells, .int .i64 f.stacks] :: r, nx, lv⟩) ⟨by omega, by omega, by omega, by omega, by rw [hS]; omega, by rw [hS]; exact hJ.s⟩ h2.out.b.mine hun
  refine S_rg CaOk.apart (by kernel_rfl) fun R hR => ?_
  simp only [inr_i64, Int.reduceLE, Int.reduceNeg, aops, astep, awant, aeff, aop, mkD, ev, ofValue, St.put, ia_int, zmc, zmn, zg1, zg0, zgd, zmo, zbs, if_true, zs1, zs0, zlc, zln, zd1, zd0, zt1, zt0, zca, zna, Nat.reduceAdd, Nat.reduceLeDiff, Nat.zero_add, zft, if_false, and_self, reduceCtorEq, beq_self_eq_true, ty_int, ty_layout_Frame, any52, b8, a1, a2]
  with_reducible refine hR _ ?_
  clear hR R
  show S _ _ _ _ _
  refine S_ret ?_
  refine ⟨.inr rfl, .bool true, ?_, rfl, rfl⟩
  simp only [resD, resAll, resOne, resTup, Try.results25, zg1, zg0, D.good, if_true, zmo]

end Go.Proofs.Ythgdibdapjaljaa
