/- The layer scope over data: reports, visit, Check. -/
import Derived.Test.YtmglacjcefajlaaSc1
import Derived.Test.YtmglacjcefajlaaVa4
namespace Go.Proofs.Ytmglacjcefajlaa
open Go.RowKit

structure Ft where
 proc : Int
 path : List Int
 err : Int
 name : ByteArray
def dFt (f : Ft) : D := .agg [.int .i64 f.proc, sl 1 (f.path.map dI), .int .i64 f.err, .str f.name]
theorem dFt_strip (f : Ft) : (dFt f).strip = dFt f := by
 unfold dFt
 simp only [D.strip, D.strips, sl_strip (map_strip (f := dI) (fun _ => rfl) _)]
theorem dFt_under (m : Nat) (f : Ft) : (dFt f).under m = true := by
 unfold dFt
 simp only [D.under, D.unders, sl_under (map_under (f := dI) (fun _ => rfl) _), Bool.and_true]
def rep (pr : Int) (path : List Int) (err : Int) (name : ByteArray) : List Ft := if err = 0 then [] else [⟨pr, path, err, name⟩]
theorem rep_len (pr : Int) (path : List Int) (err : Int) (name : ByteArray) : (rep pr path err name).length ≤ 1 := by unfold rep; split <;> simp
def UnB (B : List (List D)) : Prop := B.all (D.unders B.length) = true
theorem unB_set {B : List (List D)} (h : UnB B) (b : Nat) {o : Own} {n : Nat} {L : List Ft} : UnB (B.set b [.slice o n (L.map dFt)]) := by
 unfold UnB at h ⊢
 rw [List.all_eq_true] at h ⊢
 intro x hx
 rw [List.length_set]
 rcases List.mem_or_eq_of_mem_set hx with q | q
 ·exact h x q
 ·rw [q]; simp only [D.unders, D.under, unders_id dFt_under, Bool.and_true]
theorem unB_app {B Y : List (List D)} (h : UnB B) (hY : Free Y) : UnB (B ++ Y) := by
 unfold UnB at h ⊢
 rw [List.all_eq_true] at h ⊢
 intro x hx
 rcases List.mem_append.1 hx with q | q
 ·exact D.unders_le (by simp) x (h x q)
 ·exact hY x q _
theorem fn_strip {E : Env} {k : Nat} {args args' : List D} (h : plain args = true) (h' : plain args' = true) (e : args.map D.strip = args'.map D.strip) : fn E k args = fn E k args' := by
 unfold fn pureWith
 unfold plain at h h'
 rw [if_pos h, if_pos h', e]
/-- a path, whoever owns it -/
structure IsP (pa : D) (path : List Int) : Prop where
 u : pa.under 0 = true
 g : pa.good = true
 s : pa.strip = sl 1 (path.map dI)
theorem IsP.sl (path : List Int) : IsP (sl 1 (path.map dI)) path := ⟨sl_under (map_under (f := dI) (fun _ => rfl) _), rfl, sl_strip (map_strip (f := dI) (fun _ => rfl) _)⟩
theorem IsP.nil : IsP (.slice .nil 0 []) [] := ⟨rfl, rfl, rfl⟩
theorem IsP.clone {pa : D} {path : List Int} (h : IsP pa path) (hp : path.length ≤ 1000000) : fn EV 34 [pa] = some (Go.Proofs.Ytmglacjcefajlaa.sl 1 (path.map dI)) := by
 rw [fn_strip (args' := [Go.Proofs.Ytmglacjcefajlaa.sl 1 (path.map dI)]) (by simp [plain, h.u, h.g]) (by simp [plain, (IsP.sl path).u, (IsP.sl path).g]) (by simp [h.s, (IsP.sl path).s])]
 exact cloneI_fn path hp
theorem IsP.child {pa : D} {path : List Int} (h : IsP pa path) (i : Int) (hp : path.length ≤ 1000000) : fn EV 59 [pa, .int .i64 i] = some (Go.Proofs.Ytmglacjcefajlaa.sl 1 ((path ++ [i]).map dI)) := by
 rw [fn_strip (args' := [Go.Proofs.Ytmglacjcefajlaa.sl 1 (path.map dI), .int .i64 i]) (by simp only [plain, List.all_cons, List.all_nil, h.u, h.g, int_pl, Bool.and_true]) (by simp only [plain, List.all_cons, List.all_nil, (IsP.sl path).u, (IsP.sl path).g, int_pl, Bool.and_true]) (by simp [h.s, (IsP.sl path).s])]
 exact child_fn path i hp
theorem set_same' {α : Type} {B : List α} {b : Nat} {x : α} (h : B[b]? = some x) : B.set b x = B := by
 obtain ⟨hb, rfl⟩ := List.getElem?_eq_some_iff.1 h
 exact List.set_getElem_self hb
set_option maxRecDepth 100000 in
set_option maxHeartbeats 4000000 in
theorem report_cal (pr : Int) (pa : D) (path : List Int) (name : ByteArray) (err : Int) (fb : Nat) (B : List (List D)) (nx : Nat) (lv : List Nat) (o : Own) (n : Nat) (L : List Ft) (hpa : IsP pa path) (hp : path.length ≤ 1000000) (hL : L.length ≤ 1000000) (hb : B[fb]? = some [.slice o n (L.map dFt)]) (ha : Acc 60 4 o n (L.map dFt) lv) (hu : UnB B) :
  ∃ d B' nx' lv', (∀ fr, cal EV 33 [.int .i64 pr, pa, .str name, .int .i64 err, .ptr fb 0] ⟨fr, B, nx, lv⟩ = some (d, ⟨fr, B', nx', lv'⟩)) ∧ d = .tup [] ∧ ∃ o' n', B' = B.set fb [.slice o' n' ((L ++ rep pr path err name).map dFt)] ∧ Acc 60 4 o' n' ((L ++ rep pr path err name).map dFt) lv' := by
 refine cal_XE (Φ := fun d B' nx' lv' => d = .tup [] ∧ ∃ o' n', B' = B.set fb [.slice o' n' ((L ++ rep pr path err name).map dFt)] ∧ Acc 60 4 o' n' ((L ++ rep pr path err name).map dFt) lv') rfl Try.func33 rfl (by simp [plain, D.under]) ?_
 simp only [enterSt, Try.ntmps33, zlc, zln, Nat.reduceAdd, Nat.reduceSub, zr1, zr0, zca, zna]
 refine X_seq ?_
 refine X_rg fun R hR => ?_
 simp only [inr_i64, Int.reduceLE, Int.reduceNeg, aops, astep, awant, aeff, aop, abin, aint, ev, ofValue, St.put, zg1, zg0, zgd, zmo, if_true, zs1, zs0, and_self]
 with_reducible refine hR _ ?_
 clear hR R
 show X _ _ _ _
 refine X_ite (by simp only [ev, zg1, zg0, zgd]; exact rfl) ?_ ?_
 ·intro b1
  have c1 := b1
  try simp only [bne_iff_ne, ne_eq] at c1
  have hcl := hpa.clone hp
  simp only [sl] at hcl
  have hap := fun fr bx => (ha.more nx).app (P := Try.prog) (σ := ⟨fr, bx, nx + 1, nx :: lv⟩) (t := 34) (o2 := .own nx 60) (l2 := [.agg [.int .i64 pr, .slice .imm (if (path.map dI).isEmpty = true then 0 else 1) (path.map dI), .int .i64 err, .str name]]) und_scope_Fault inf_scope_Fault_eq inf_scope_Fault_size (by omega) (by rw [inf_scope_Fault_bytes]; omega) inf_scope_Fault_zc (by simp; omega) (by simp)
  have e1 : L.map dFt ++ [.agg [.int .i64 pr, .slice .imm (if (path.map dI).isEmpty = true then 0 else 1) (path.map dI), .int .i64 err, .str name]] = (L ++ [Ft.mk pr path err name]).map dFt := by simp [dFt, sl]
  have hlb : (fb < B.length) = True := eq_true (List.getElem?_eq_some_iff.1 hb).1
  refine X_rd 8 (by kernel_rfl) fun R hR => ?_
  simp only [EVP, aops, astep, awant, aeff, aop, mkD, afill, abuild, ev, ofValue, St.put, pcall, gd_int, cl_int, gd_str, cl_str, gd_agg, cl_agg, gd_slice, ia_slice, cl_slice, zmc, zmn, zg1, zg0, zgd, zmo, if_true, zs1, zs0, zlc, zln, zd1, zd0, zt1, zt0, zca, zna, Nat.reduceAdd, Nat.reduceLeDiff, Nat.reduceLT, Nat.zero_add, Bool.and_true, zft, if_false, and_self, List.all_cons, List.all_nil, beq_self_eq_true, Nat.reduceMul, rng_1, ty_scope_Fault, ty_s_scope_Fault, st_scope_Fault, sta_scope_Fault, und_scope_Fault, inf_scope_Fault_eq, inf_scope_Fault_size, inf_scope_Fault_zero, any34, b1, hcl, hb]
  with_reducible refine hR _ ?_
  clear hR R
  refine Y_endC fun R hR => ?_
  simp only [EVP, aops, astep, awant, aeff, astore, ev, St.put, gd_slice, cl_slice, zg1, zg0, zgd, zmo, if_true, zs1, zs0, zlc, zln, zd1, zd0, zt0, zca, zna, Nat.reduceLeDiff, Nat.zero_add, and_self, ty_s_scope_Fault, hap, e1, hb]
  with_reducible refine hR _ ?_
  clear hR R
  have hr : rep pr path err name = [Ft.mk pr path err name] := by unfold rep; rw [if_neg (by simpa using b1)]
  refine ⟨.inl rfl, .tup [], rfl, rfl, by simp, ?_, ?_⟩
  ·rw [List.take_of_length_le (by simp)]
   have := unB_set hu fb (o := Own.own (nx + 1) 60) (n := 4) (L := L ++ [Ft.mk pr path err name])
   unfold UnB at this; rw [List.length_set] at this; exact this
  ·rw [List.take_of_length_le (by simp), hr]
   exact ⟨rfl, _, _, rfl, .own (by simp)⟩
 ·intro b2
  have c2 := b2
  try simp only [bne_eq_false_iff_eq] at c2
  refine X_skip ?_
  have hr : rep pr path err name = [] := by unfold rep; rw [if_pos (by simpa using b2)]
  refine ⟨.inl rfl, .tup [], rfl, rfl, by simp, ?_, ?_⟩
  ·rw [List.take_of_length_le (by simp)]; exact hu
  ·rw [List.take_of_length_le (by simp), hr, List.append_nil]
   exact ⟨rfl, o, n, (set_same' hb).symm, ha⟩
/-- the boxes behind a report: the base, in which the faults lie, and boxes that point nowhere -/
def Bx (B0 : List (List D)) (fb : Nat) (L : List Ft) (o : Own) (n : Nat) (Y B : List (List D)) : Prop := B = B0.set fb [.slice o n (L.map dFt)] ++ Y ∧ Free Y
theorem Bx.len {B0 : List (List D)} {fb : Nat} {L : List Ft} {o : Own} {n : Nat} {Y B : List (List D)} (h : Bx B0 fb L o n Y B) : B.length = B0.length + Y.length := by rw [h.1]; simp
theorem Bx.get {B0 : List (List D)} {fb : Nat} {L : List Ft} {o : Own} {n : Nat} {Y B : List (List D)} (h : Bx B0 fb L o n Y B) (j : Nat) : B[B0.length + j]? = Y[j]? := by
 rw [h.1, List.getElem?_append_right (by simp)]; congr 1; simp
theorem Bx.snoc {B0 : List (List D)} {fb : Nat} {L : List Ft} {o : Own} {n : Nat} {Y B : List (List D)} (h : Bx B0 fb L o n Y B) {X : List (List D)} (hX : Free X) : Bx B0 fb L o n (Y ++ X) (B ++ X) := by
 refine ⟨by rw [h.1, zaa], fun c hc m => ?_⟩
 rcases List.mem_append.1 hc with q | q
 ·exact h.2 c q m
 ·exact hX c q m
theorem Bx.take {B0 : List (List D)} {fb : Nat} {L : List Ft} {o : Own} {n : Nat} {Y X B : List (List D)} (h : Bx B0 fb L o n (Y ++ X) B) : Bx B0 fb L o n Y (B.take (B0.length + Y.length)) := by
 refine ⟨?_, fun c hc m => h.2 c (List.mem_append_left _ hc) m⟩
 rw [h.1, ← zaa, List.take_append_of_le_length (by simp), List.take_of_length_le (by simp)]
theorem Bx.un {B0 : List (List D)} {fb : Nat} {L : List Ft} {o : Own} {n : Nat} {Y B : List (List D)} (h : Bx B0 fb L o n Y B) (h0 : UnB B0) : UnB B := by
 rw [h.1]; exact unB_app (unB_set h0 fb) h.2
theorem Bx.in0 {B0 : List (List D)} {fb : Nat} {L : List Ft} {o : Own} {n : Nat} {Y B : List (List D)} (h : Bx B0 fb L o n Y B) {j : Nat} {x : List D} (hj : B0[j]? = some x) (hne : j ≠ fb) : B[j]? = some x := by
 obtain ⟨hl, _⟩ := List.getElem?_eq_some_iff.1 hj
 rw [h.1, List.getElem?_append_left (by simpa using hl), List.getElem?_set_ne (Ne.symm hne)]; exact hj
theorem Bx.inf {B0 : List (List D)} {fb : Nat} {L : List Ft} {o : Own} {n : Nat} {Y B : List (List D)} (h : Bx B0 fb L o n Y B) (hl : fb < B0.length) : B[fb]? = some [.slice o n (L.map dFt)] := by
 rw [h.1, List.getElem?_append_left (by simpa using hl), List.getElem?_set_self (by simpa using hl)]
theorem Bx.set {B0 : List (List D)} {fb : Nat} {L L' : List Ft} {o o' : Own} {n n' : Nat} {Y B : List (List D)} (h : Bx B0 fb L o n Y B) (hl : fb < B0.length) : Bx B0 fb L' o' n' Y (B.set fb [.slice o' n' (L'.map dFt)]) := by
 refine ⟨?_, h.2⟩
 rw [h.1, List.set_append_left _ _ (by simpa using hl), List.set_set]
def Grow (B0 : List (List D)) (fb : Nat) (L : List Ft) (Y : List (List D)) (d : D) (B' : List (List D)) (_nx' : Nat) (lv' : List Nat) : Prop := d = .tup [] ∧ ∃ o' n', Bx B0 fb L o' n' Y B' ∧ Acc 60 4 o' n' (L.map dFt) lv'
/-- a function that takes reports -/
structure Rpt (k : Nat) (caps : List D) (B0 : List (List D)) (fb : Nat) (pr : Int) : Prop where
 any : (Try.prog.funcs[k]?).any (fun fn => fn.body.isSome && fn.name != "runtime.NumGoroutine") = true
 np : D.unders 0 caps = false
 lt : fb < B0.length
 un : UnB B0
 call : ∀ (pa : D) (path : List Int) (name : ByteArray) (err : Int) (B Y : List (List D)) (nx : Nat) (lv : List Nat) (o : Own) (n : Nat) (L : List Ft), IsP pa path → path.length ≤ 1000000 → L.length ≤ 1000000 → Bx B0 fb L o n Y B → Acc 60 4 o n (L.map dFt) lv →
  ∃ d B' nx' lv', (∀ fr, cal EV k (pa :: .str name :: .int .i64 err :: caps) ⟨fr, B, nx, lv⟩ = some (d, ⟨fr, B', nx', lv'⟩)) ∧ Grow B0 fb (L ++ rep pr path err name) Y d B' nx' lv'
set_option maxRecDepth 100000 in
set_option maxHeartbeats 4000000 in
theorem rep2 (i : Int) (B0 : List (List D)) (fb rb ib : Nat) (hr : B0[rb]? = some [.fn 33 [.ptr fb 0]]) (hi : B0[ib]? = some [.int .i64 i]) (hne1 : rb ≠ fb) (hne2 : ib ≠ fb) (hl : fb < B0.length) (hu : UnB B0) : Rpt 38 [.ptr rb 0, .ptr ib 0] B0 fb i := by
 refine ⟨any38, by simp [D.under, D.unders], hl, hu, ?_⟩
 intro pa path name err B Y nx lv o n L hpa hp hL hB ha
 have hb2 := hB.in0 hr hne1
 have hb3 := hB.in0 hi hne2
 obtain ⟨_, B1, nx1, lv1, hc, rfl, o1, n1, hB1', ha1⟩ := report_cal i pa path name err fb B nx lv o n L hpa hp hL (hB.inf hl) ha (hB.un hu)
 have hB1 : Bx B0 fb (L ++ rep i path err name) o1 n1 Y B1 := by rw [hB1']; exact hB.set hl
 refine cal_XE (Φ := Grow B0 fb (L ++ rep i path err name) Y) rfl Try.func38 rfl (by simp [plain, D.under]) ?_
 simp only [enterSt, Try.ntmps38, zlc, zln, Nat.reduceAdd, Nat.reduceSub, zr1, zr0, zca, zna]
 refine X_rc fun R hR => ?_
 simp only [EVP, aops, astep, awant, aeff, aop, mkD, ev, St.put, ia_int, ia_fn, zmc, zmn, zg1, zg0, zgd, zmo, if_true, zs1, zs0, zlc, zln, zd0, zt1, zt0, zca, zna, Nat.reduceLeDiff, Nat.zero_add, zft, if_false, ty_int, ty_func_int__s_int__string__api_Errno_, hb2, hb3, hc, any33]
 with_reducible refine hR _ ?_
 clear hR R
 refine ⟨.inl rfl, .tup [], rfl, rfl, ?_, ?_, ?_⟩
 ·rw [hB1.len, hB.len]; exact Nat.le_refl _
 ·rw [← hB1.len.trans hB.len.symm, List.take_length]; exact hB1.un hu
 ·rw [← hB1.len.trans hB.len.symm, List.take_length]; exact ⟨rfl, o1, n1, hB1, ha1⟩
set_option maxRecDepth 100000 in
set_option maxHeartbeats 4000000 in
theorem rep3 (p : Pg) (B0 : List (List D)) (fb rb ib : Nat) (hr : B0[rb]? = some [.fn 33 [.ptr fb 0]]) (hi : B0[ib]? = some (dG p).cells) (hne1 : rb ≠ fb) (hne2 : ib ≠ fb) (hl : fb < B0.length) (hu : UnB B0) : Rpt 39 [.ptr rb 0, .ptr ib 0] B0 fb (p.procs.length : Int) := by
 refine ⟨any39, by simp [D.under, D.unders], hl, hu, ?_⟩
 intro pa path name err B Y nx lv o n L hpa hp hL hB ha
 have hb2 := hB.in0 hr hne1
 have hb3 := hB.in0 hi hne2
 obtain ⟨_, B1, nx1, lv1, hc, rfl, o1, n1, hB1', ha1⟩ := report_cal (p.procs.length : Int) pa path name err fb B nx lv o n L hpa hp hL (hB.inf hl) ha (hB.un hu)
 have hB1 : Bx B0 fb (L ++ rep (p.procs.length : Int) path err name) o1 n1 Y B1 := by rw [hB1']; exact hB.set hl
 refine cal_XE (Φ := Grow B0 fb (L ++ rep (p.procs.length : Int) path err name) Y) rfl Try.func39 rfl (by simp [plain, D.under]) ?_
 simp only [enterSt, Try.ntmps39, zlc, zln, Nat.reduceAdd, Nat.reduceSub, zr1, zr0, zca, zna]
 refine X_rc fun R hR => ?_
 simp only [EVP, aops, astep, awant, aeff, aop, mkD, ev, St.put, ia_slice, ia_fn, zmc, zmn, zg1, zg0, zgd, zmo, if_true, zs1, zs0, zlm, zlc, zln, zd1, zd0, zt1, zt0, zca, zna, Nat.reduceAdd, Nat.reduceLeDiff, Nat.zero_add, zft, if_false, reduceCtorEq, ty_s_api_Proc, ty_api_Program, und_api_Proc, ty_func_int__s_int__string__api_Errno_, dG_cells, hb2, hb3, hc, any33]
 with_reducible refine hR _ ?_
 clear hR R
 refine ⟨.inl rfl, .tup [], rfl, rfl, ?_, ?_, ?_⟩
 ·rw [hB1.len, hB.len]; exact Nat.le_refl _
 ·rw [← hB1.len.trans hB.len.symm, List.take_length]; exact hB1.un hu
 ·rw [← hB1.len.trans hB.len.symm, List.take_length]; exact ⟨rfl, o1, n1, hB1, ha1⟩
def argsF (p : Pg) (pr : Int) (t : Tr) (path : List Int) (vs : List Vd) : List Tr → Nat → List Ft
 | [], _ => []
 | c :: r, i => rep pr (path ++ [(i : Int)]) (argE p t i vs) c.name ++ argsF p pr t path vs r (i + 1)
mutual
def visF (p : Pg) (pr : Int) : Tr → List Int → List Vd → List Ft
 | .mk k n s c, path, vs => rep pr path (faultE p (.mk k n s c) vs) s ++ (if k = 50 ∨ k = 51 then argsF p pr (.mk k n s c) path vs c 0 else visL p pr (.mk k n s c) path vs c 0)
def visL (p : Pg) (pr : Int) (t : Tr) (path : List Int) (vs : List Vd) : List Tr → Nat → List Ft
 | [], _ => []
 | c :: r, i => visF p pr c (path ++ [(i : Int)]) (innerV t i vs) ++ visL p pr t path vs r (i + 1)
end
theorem visF_eq (p : Pg) (pr : Int) (t : Tr) (path : List Int) (vs : List Vd) : visF p pr t path vs = rep pr path (faultE p t vs) t.name ++ (if t.kind = 50 ∨ t.kind = 51 then argsF p pr t path vs t.kids 0 else visL p pr t path vs t.kids 0) := by
 cases t; simp only [visF]; rfl
theorem argsF_drop (p : Pg) (pr : Int) (t : Tr) (path : List Int) (vs : List Vd) (c : List Tr) (i : Nat) (h : i < c.length) : argsF p pr t path vs (c.drop i) i = rep pr (path ++ [(i : Int)]) (argE p t i vs) c[i].name ++ argsF p pr t path vs (c.drop (i + 1)) (i + 1) := by
 rw [List.drop_eq_getElem_cons h]; rfl
theorem visL_drop (p : Pg) (pr : Int) (t : Tr) (path : List Int) (vs : List Vd) (c : List Tr) (i : Nat) (h : i < c.length) : visL p pr t path vs (c.drop i) i = visF p pr c[i] (path ++ [(i : Int)]) (innerV t i vs) ++ visL p pr t path vs (c.drop (i + 1)) (i + 1) := by
 rw [List.drop_eq_getElem_cons h]; simp only [visL]
theorem sizes_ge : ∀ c : List Tr, c.length ≤ Tr.sizes c
 | [] => Nat.zero_le _
 | x :: r => by have := sizes_ge r; cases x; simp only [zlc, Tr.sizes, Tr.size]; omega
theorem sizes_drop (c : List Tr) (i : Nat) (h : i < c.length) : Tr.sizes (c.drop i) = c[i].size + Tr.sizes (c.drop (i + 1)) := by
 rw [List.drop_eq_getElem_cons h]; simp only [Tr.sizes]
theorem size_ge1 (t : Tr) : 1 ≤ t.size := by cases t; simp only [Tr.size]; omega
theorem size_kids (t : Tr) : t.size = 1 + Tr.sizes t.kids := by cases t; simp only [Tr.size, Tr.kids]; omega
theorem argsF_len (p : Pg) (pr : Int) (t : Tr) (path : List Int) (vs : List Vd) : ∀ (c : List Tr) (i : Nat), (argsF p pr t path vs c i).length ≤ c.length
 | [], _ => Nat.le_refl _
 | c :: r, i => by
  have := argsF_len p pr t path vs r (i + 1)
  have h2 := rep_len pr (path ++ [(i : Int)]) (argE p t i vs) c.name
  simp only [argsF, zla, zlc]; omega
mutual
theorem visF_len (p : Pg) (pr : Int) : ∀ (t : Tr) (path : List Int) (vs : List Vd), (visF p pr t path vs).length ≤ t.size
 | .mk k n s c, path, vs => by
  have h1 := rep_len pr path (faultE p (.mk k n s c) vs) s
  have h2 := argsF_len p pr (.mk k n s c) path vs c 0
  have h3 := visL_len p pr (.mk k n s c) path vs c 0
  have h4 := sizes_ge c
  simp only [visF, zla, Tr.size]
  split <;> omega
theorem visL_len (p : Pg) (pr : Int) (t : Tr) (path : List Int) (vs : List Vd) : ∀ (c : List Tr) (i : Nat), (visL p pr t path vs c i).length ≤ Tr.sizes c
 | [], _ => Nat.le_refl _
 | c :: r, i => by
  have h1 := visF_len p pr c (path ++ [(i : Int)]) (innerV t i vs)
  have h2 := visL_len p pr t path vs r (i + 1)
  simp only [visL, zla, Tr.sizes]; omega
end
theorem innerV_len (t : Tr) (i : Int) (vs : List Vd) : (innerV t i vs).length ≤ vs.length + 1 := by
 unfold innerV; split
 ·simp
 ·split <;> simp
theorem free2 (p : Pg) (t : Tr) : Free [(dG p).cells, (dN t).cells] := by
 intro c hc m
 simp only [List.mem_cons, List.not_mem_nil, or_false] at hc
 rcases hc with rfl | rfl
 ·have := dG_under m p; simpa [dG, D.under, D.cells] using this
 ·exact kids_unders t m
theorem free1 (t : Tr) : Free [(dN t).cells] := by
 intro c hc m
 rw [List.mem_singleton.1 hc]; exact kids_unders t m
theorem lst_nil {c : List Tr} {i : Nat} (h : c.length ≤ i) : c.drop i = [] := List.drop_of_length_le h
set_option maxRecDepth 100000 in
set_option maxHeartbeats 4000000 in
theorem visit_cal {p : Pg} {k : Nat} {caps : List D} {B0 : List (List D)} {fb : Nat} {pr : Int} (hp : p.procs.length ≤ 1000000) (hRp : Rpt k caps B0 fb pr) : ∀ (N : Nat) (t : Tr), t.size ≤ N → ∀ (pa : D) (path : List Int) (vs : List Vd) (B Y : List (List D)) (nx : Nat) (lv : List Nat) (o : Own) (n : Nat) (L : List Ft), IsP pa path → path.length + t.size ≤ 1000000 → vs.length + t.size ≤ 1000000 → L.length + t.size ≤ 1000000 → Bx B0 fb L o n Y B → Acc 60 4 o n (L.map dFt) lv →
  ∃ d B' nx' lv', (∀ fr, cal EV 37 [dG p, dN t, pa, sl 3 (vs.map dV), .fn k caps] ⟨fr, B, nx, lv⟩ = some (d, ⟨fr, B', nx', lv'⟩)) ∧ Grow B0 fb (L ++ visF p pr t path vs) Y d B' nx' lv' := by
 intro N
 induction N with
 | zero => intro t h; cases t; simp only [Tr.size] at h; omega
 | succ N IH =>
 intro t hN pa path vs B Y nx lv o n L hpa hpl hvl hLl hB ha
 have ih := fun (c : Tr) (hc : c.size < t.size) => IH c (by omega)
 clear IH
 refine cal_XE (Φ := Grow B0 fb (L ++ visF p pr t path vs) Y) rfl Try.func37 rfl (by simp only [plain, List.all_cons, List.all_nil, show D.under 0 (.fn k caps) = false from hRp.np, Bool.false_and, Bool.and_false]) ?_
 simp only [sl, enterSt, Try.ntmps37, zlc, zln, Nat.reduceAdd, Nat.reduceSub, zr1, zr0, zca, zna]
 refine X_seq ?_
 refine X_rg fun R hR => ?_
 simp only [aops, astep, awant, aeff, ev, St.put, zg1, zg0, zgd, zmo, if_true, zs1, zs0, zlc, zln, zca, zna, zaa, Nat.zero_add, dN_cells, dN_good, sl, sl, dG_good, dG_cells, zla]
 with_reducible refine hR _ ?_
 clear hR R
 show X _ _ _ _
 refine X_seq ?_
 have hfl := fault_fn p t vs (by omega) hp
 simp only [sl] at hfl
 obtain ⟨_, B1, nx1, lv1, hc1, rfl, o1, n1, hB1, ha1⟩ := hRp.call pa path t.name (faultE p t vs) (B ++ [(dG p).cells, (dN t).cells]) (Y ++ [(dG p).cells, (dN t).cells]) nx lv o n L hpa (by omega) (by omega) (hB.snoc (free2 p t)) ha
 have g0 : B1[B.length]? = some (dG p).cells := by have := hB1.get Y.length; rw [← hB.len] at this; rw [this]; simp
 have g1 : B1[B.length + 1]? = some (dN t).cells := by have := hB1.get (Y.length + 1); rw [← Nat.add_assoc, ← hB.len] at this; rw [this, List.getElem?_append_right (by omega)]; simp
 simp only [sl, dG_cells, dN_cells] at hc1
 refine X_rd 8 (by kernel_rfl) fun R hR => ?_
 simp only [EVP, app_get0, app_get1, aops, astep, awant, aeff, aop, mkD, ev, St.put, pcall, ia_str, zmc, zmn, zg1, zg0, zgd, zmo, if_true, zs1, zs0, zlc, zln, zd1, zd0, zt1, zt0, zca, zna, Nat.reduceAdd, Nat.reduceLeDiff, Nat.zero_add, zft, if_false, reduceCtorEq, ty_string, ty_api_Node, ty_api_Program, any58, dN_agg, dG_agg, hfl]
 with_reducible refine hR _ ?_
 clear hR R
 refine Y_endC fun R hR => ?_
 simp only [EVP, aops, astep, awant, aeff, ev, St.put, zmc, zmn, zg1, zg0, zgd, zmo, if_true, zs1, zs0, zd1, zd0, zca, zna, hc1, hRp.any]
 with_reducible refine hR _ ?_
 clear hR R
 show X _ _ _ _
 refine X_seq ?_
 refine X_seq ?_
 refine X_y ?_
 refine Y_k 4 fun R hR => ?_
 simp only [EVP, inr_u8, Int.reduceLE, aops, astep, awant, aeff, aop, abin, aint, mkD, ev, ofValue, St.put, ia_int, zg1, zg0, zgd, zmo, if_true, zs1, zs0, zlc, zln, zd0, zt1, zt0, Nat.reduceAdd, Nat.reduceLeDiff, Nat.zero_add, Nat.add_zero, zft, if_false, and_self, reduceCtorEq, ty_uint8, ty_api_Node, dN_cells, sl, sl, g1]
 with_reducible refine hR _ ?_
 clear hR R
 simp only [zd1, zd0]
 refine Y_if 26 (by simp only [ev, zg1, zg0, zgd]; exact rfl) ?_ ?_
 ·intro b1
  have c1 := b1
  try simp only [beq_iff_eq] at c1
  refine Y_end fun R hR => ?_
  simp only [EVP, inr_u8, Int.reduceLE, aops, astep, awant, aeff, aop, abin, ev, ofValue, St.put, zg1, zg0, zgd, zmo, Option.map_none, zbs, if_true, zs1, zs0, Nat.add_zero, zft, if_false, and_self, reduceCtorEq, beq_self_eq_true, bq_tf, ty_uint8, ty_api_Node, c1]
  with_reducible refine hR _ ?_
  clear hR R
  show X _ _ _ _
  refine X_true (by simp only [ev, zg1, zg0, zgd]) ?_
  refine X_seq ?_
  refine X_seq ?_
  refine X_rg fun R hR => ?_
  simp only [EVP, inr_i64, Int.reduceLE, Int.reduceNeg, aops, astep, awant, aeff, aop, mkD, ev, ofValue, St.put, ia_slice, zg1, zg0, zgd, zmo, if_true, zs1, zs0, zlm, zlc, zln, zd1, zd0, zt1, zt0, Nat.reduceAdd, Nat.reduceLeDiff, Nat.zero_add, zft, if_false, and_self, reduceCtorEq, ty_s_api_Node, ty_api_Node, und_api_Node, dN_cells, sl, sl, c1, g1]
  with_reducible refine hR _ ?_
  clear hR R
  show X _ _ _ _
  refine X_block ?_
  have c_call : (t.kind = 50 ∨ t.kind = 51) = True := by simp [c1]
  refine X_loop (fun m σ => ∃ (i : Nat) (o2 : Own) (n2 : Nat) (L2 : List Ft) (Z : List (List D)) (B2 : List (List D)) (nx2 : Nat) (lv2 : List Nat), σ = ⟨[slotOf σ 0, slotOf σ 1, pa, .slice .imm (if (vs.map dV).isEmpty = true then 0 else 3) (vs.map dV), .fn k caps, .ptr B.length 0, .ptr (B.length + 1) 0, slotOf σ 7, slotOf σ 8, slotOf σ 9, slotOf σ 10, slotOf σ 11, slotOf σ 12, slotOf σ 13, slotOf σ 14, slotOf σ 15, slotOf σ 16, slotOf σ 17, slotOf σ 18, slotOf σ 19, slotOf σ 20, slotOf σ 21, slotOf σ 22, slotOf σ 23, slotOf σ 24, slotOf σ 25, slotOf σ 26, slotOf σ 27, slotOf σ 28, slotOf σ 29, slotOf σ 30, slotOf σ 31, .slice .imm (if (t.kids.map dN).isEmpty = true then 0 else 4) (t.kids.map dN), .int .i64 t.kids.length, .int .i64 i, slotOf σ 35, slotOf σ 36, slotOf σ 37, slotOf σ 38, slotOf σ 39, slotOf σ 40, slotOf σ 41, slotOf σ 42, slotOf σ 43, slotOf σ 44, slotOf σ 45, slotOf σ 46, slotOf σ 47, slotOf σ 48, slotOf σ 49, slotOf σ 50, slotOf σ 51, slotOf σ 52, slotOf σ 53, slotOf σ 54, slotOf σ 55, slotOf σ 56, slotOf σ 57, slotOf σ 58, slotOf σ 59, slotOf σ 60, slotOf σ 61, slotOf σ 62, slotOf σ 63, slotOf σ 64, slotOf σ 65, slotOf σ 66, slotOf σ 67, slotOf σ 68, slotOf σ 69, slotOf σ 70, slotOf σ 71], B2, nx2, lv2⟩ ∧ m = t.kids.length - i ∧ i ≤ t.kids.length ∧ Hid (Bx B0 fb L2 o2 n2 (Y ++ ((dG p).cells :: (dN t).cells :: Z)) B2) ∧ Hid (Acc 60 4 o2 n2 (L2.map dFt) lv2) ∧ Hid (L2 ++ argsF p pr t path vs (t.kids.drop i) i = L ++ visF p pr t path vs) ∧ L2.length + Tr.sizes (t.kids.drop i) ≤ L.length + t.size) ?_ (t.kids.length) _ ?_
  rotate_left
  ·exact ⟨0, o1, n1, _, [], B1, nx1, lv1, rfl, rfl, Nat.zero_le _, Lib.hid hB1, Lib.hid ha1, Lib.hid (by rw [zd0, zaa, visF_eq]; simp only [c_call, if_true]), by have h1 := rep_len pr path (faultE p t vs) t.name; have h2 := size_kids t; simp only [zla, zd0]; omega⟩
  rintro m σ ⟨i, o2, n2, L2, Z, B2, nx2, lv2, hσ, rfl, hi, hB2, ha2, hL2, hS2⟩
  generalize slotOf σ = x at hσ
  subst hσ
  have hn4 : ∀ j, j < t.kids.length → ((if (t.kids.map dN).isEmpty = true then 0 else 4) = 4) = True := fun j h => eq_true (sl_n (j := j) (by simpa using h))
  have g0 : B2[B.length]? = some (dG p).cells := by have := hB2.out.get Y.length; rw [← hB.len] at this; rw [this]; simp
  have g1 : B2[B.length + 1]? = some (dN t).cells := by have := hB2.out.get (Y.length + 1); rw [← Nat.add_assoc, ← hB.len] at this; rw [this, List.getElem?_append_right (by omega)]; simp
  have g0s := fun l => snoc_get g0 l
  have g1s := fun l => snoc_get g1 l
  have hsz : L2.length ≤ 1000000 := by omega
  refine X_seq ?_
  refine X_rg fun R hR => ?_
  simp only [nat_lt, aops, astep, awant, aeff, aop, abin, aint, ev, St.put, zg1, zg0, zgd, zmo, if_true, zs1, zs0]
  with_reducible refine hR _ ?_
  clear hR R
  show X _ _ _ _
  refine X_seq ?_
  refine X_ite (by simp only [ev, zg1, zg0, zgd]; exact rfl) ?_ ?_
  ·intro b2
   have c2 := b2
   try simp only [decide_eq_true_eq] at c2
   refine X_skip ?_
   show X _ _ _ _
   refine X_seq ?_
   refine X_block ?_
   refine X_seq ?_
   have hlt : i < t.kids.length := by first | assumption | omega
   have hn1 := hn4 i hlt
   have e1 : (t.kids.map dN)[i]? = some (dN t.kids[i]) := by simp [hlt]
   refine X_rg fun R hR => ?_
   simp only [EVP, app_get0, app_set0, nat_lt, nat_0, nat_to, aops, astep, awant, aeff, aop, astore, ev, St.put, zg1, zg0, zgd, zmo, zbs, if_true, zs1, zs0, zlm, zlc, zln, zd1, zd0, zt0, zca, zna, Nat.reduceAdd, Nat.reduceLeDiff, Nat.zero_add, and_self, decide_true, zis, ty_api_Node, und_api_Node, siz_api_Node, inf_api_Node_eq, dN_cells, dN_isAgg, dN_good, sl, sl, c2, hn1, e1]
   with_reducible refine hR _ ?_
   clear hR R
   show X _ _ _ _
   have hsp0 := size_ge1 t
   have hch := hpa.child (i : Int) (by omega)
   have har := arg_fn p t i vs hlt (by omega) hp
   simp only [sl] at hch har
   obtain ⟨_, B3, nx3, lv3, hc3, rfl, o3, n3, hB3, ha3⟩ := hRp.call (sl 1 ((path ++ [(i : Int)]).map dI)) (path ++ [(i : Int)]) t.kids[i].name (argE p t i vs) (B2 ++ [(dN t.kids[i]).cells]) (Y ++ ((dG p).cells :: (dN t).cells :: (Z ++ [(dN t.kids[i]).cells]))) nx2 lv2 o2 n2 L2 (IsP.sl _) (by simp; omega) hsz (by have := hB2.out.snoc (free1 t.kids[i]); simpa using this) ha2.out
   simp only [sl, dN_cells] at hc3
   refine X_rd 11 (by kernel_rfl) fun R hR => ?_
   simp only [EVP, app_get0, aops, astep, awant, aeff, aop, mkD, ev, St.put, pcall, ia_str, zmc, zmn, zg1, zg0, zgd, zmo, if_true, zs1, zs0, zlc, zln, zd1, zd0, zt1, zt0, zca, zna, Nat.reduceAdd, Nat.reduceLeDiff, Nat.zero_add, zft, if_false, reduceCtorEq, ty_string, ty_api_Node, ty_api_Program, any59, any60, dN_agg, dN_cells, sl, sl, dG_agg, g0s, g1s, hch, har, dG_cells]
   with_reducible refine hR _ ?_
   clear hR R
   refine Y_endC fun R hR => ?_
   simp only [EVP, aops, astep, awant, aeff, ev, St.put, zmc, zmn, zg1, zg0, zgd, zmo, if_true, zs1, zs0, zd1, zd0, zca, zna, hc3, hRp.any]
   with_reducible refine hR _ ?_
   clear hR R
   show X _ _ _ _
   have hbig : i < 9223372036854775807 := by have := Tr.length_kids t; omega
   refine X_rg fun R hR => ?_
   simp only [inr_i64, Int.reduceLE, Int.reduceNeg, aops, astep, awant, aeff, aop, abin, aint, ev, ofValue, St.put, zg1, zg0, zgd, zmo, if_true, zs1, zs0, and_self, nat_succ hbig]
   with_reducible refine hR _ ?_
   clear hR R
   show ∃ m, m < _ ∧ _
   have hsd := sizes_drop t.kids i hlt
   have hsp := size_ge1 t.kids[i]
   have hrl := rep_len pr (path ++ [(i : Int)]) (argE p t i vs) t.kids[i].name
   exact ⟨t.kids.length - (i + 1), by omega, i + 1, o3, n3, _, Z ++ [(dN t.kids[i]).cells], B3, nx3, lv3, rfl, rfl, by omega, Lib.hid hB3, Lib.hid ha3, Lib.hid (by rw [← hL2.out, argsF_drop p pr t path vs t.kids i hlt, zaa]), by rw [zla]; omega⟩
  ·intro b3
   have c3 := b3
   try simp only [decide_eq_false_iff_not] at c3
   refine X_exit ?_
   show X _ _ _ _
   refine X_ret ?_
   have hT : L2 = L ++ visF p pr t path vs := by rw [← hL2.out, lst_nil (by omega)]; simp only [argsF, List.append_nil]
   subst hT
   have hB5 := hB2.out.take (Y := Y) (X := (dG p).cells :: (dN t).cells :: Z)
   rw [← hB.len] at hB5
   refine ⟨.inr rfl, .tup [], rfl, rfl, ?_, ?_, rfl, o2, n2, hB5, ha2.out⟩
   ·show B.length ≤ B2.length; rw [hB2.out.len, hB.len]; simp
   ·have := hB5.un hRp.un; unfold UnB at this; rw [hB5.len, ← hB.len] at this; exact this
 ·intro b4
  have c4 := b4
  try simp only [ne_eq, beq_eq_false_iff_ne] at c4
  refine Y_end fun R hR => ?_
  simp only [EVP, inr_u8, Int.reduceLE, aops, astep, awant, aeff, aop, abin, aint, mkD, ev, ofValue, St.put, ia_int, zg1, zg0, zgd, zmo, zbs, if_true, zs1, zs0, zlc, zln, zd0, zt1, zt0, Nat.reduceAdd, Nat.reduceLeDiff, Nat.zero_add, Nat.add_zero, zft, if_false, and_self, reduceCtorEq, beq_self_eq_true, ty_uint8, ty_api_Node, dN_cells, sl, sl, b4, g1]
  with_reducible refine hR _ ?_
  clear hR R
  show X _ _ _ _
  refine X_ite (by simp only [ev, zg1, zg0, zgd]; exact rfl) ?_ ?_
  ·intro b5
   have c5 := b5
   try simp only [beq_iff_eq] at c5
   refine X_seq ?_
   refine X_seq ?_
   refine X_rg fun R hR => ?_
   simp only [EVP, inr_i64, Int.reduceLE, Int.reduceNeg, aops, astep, awant, aeff, aop, mkD, ev, ofValue, St.put, ia_slice, zg1, zg0, zgd, zmo, if_true, zs1, zs0, zlm, zlc, zln, zd1, zd0, zt1, zt0, Nat.reduceAdd, Nat.reduceLeDiff, Nat.zero_add, zft, if_false, and_self, reduceCtorEq, beq_self_eq_true, ty_s_api_Node, ty_api_Node, und_api_Node, dN_cells, sl, sl, c5, g1]
   with_reducible refine hR _ ?_
   clear hR R
   show X _ _ _ _
   refine X_block ?_
   have c_call : (t.kind = 50 ∨ t.kind = 51) = True := by simp [c5]
   refine X_loop (fun m σ => ∃ (i : Nat) (o2 : Own) (n2 : Nat) (L2 : List Ft) (Z : List (List D)) (B2 : List (List D)) (nx2 : Nat) (lv2 : List Nat), σ = ⟨[slotOf σ 0, slotOf σ 1, pa, .slice .imm (if (vs.map dV).isEmpty = true then 0 else 3) (vs.map dV), .fn k caps, .ptr B.length 0, .ptr (B.length + 1) 0, slotOf σ 7, slotOf σ 8, slotOf σ 9, slotOf σ 10, slotOf σ 11, slotOf σ 12, slotOf σ 13, slotOf σ 14, slotOf σ 15, slotOf σ 16, slotOf σ 17, slotOf σ 18, slotOf σ 19, slotOf σ 20, slotOf σ 21, slotOf σ 22, slotOf σ 23, slotOf σ 24, slotOf σ 25, slotOf σ 26, slotOf σ 27, slotOf σ 28, slotOf σ 29, slotOf σ 30, slotOf σ 31, .slice .imm (if (t.kids.map dN).isEmpty = true then 0 else 4) (t.kids.map dN), .int .i64 t.kids.length, .int .i64 i, slotOf σ 35, slotOf σ 36, slotOf σ 37, slotOf σ 38, slotOf σ 39, slotOf σ 40, slotOf σ 41, slotOf σ 42, slotOf σ 43, slotOf σ 44, slotOf σ 45, slotOf σ 46, slotOf σ 47, slotOf σ 48, slotOf σ 49, slotOf σ 50, slotOf σ 51, slotOf σ 52, slotOf σ 53, slotOf σ 54, slotOf σ 55, slotOf σ 56, slotOf σ 57, slotOf σ 58, slotOf σ 59, slotOf σ 60, slotOf σ 61, slotOf σ 62, slotOf σ 63, slotOf σ 64, slotOf σ 65, slotOf σ 66, slotOf σ 67, slotOf σ 68, slotOf σ 69, slotOf σ 70, slotOf σ 71], B2, nx2, lv2⟩ ∧ m = t.kids.length - i ∧ i ≤ t.kids.length ∧ Hid (Bx B0 fb L2 o2 n2 (Y ++ ((dG p).cells :: (dN t).cells :: Z)) B2) ∧ Hid (Acc 60 4 o2 n2 (L2.map dFt) lv2) ∧ Hid (L2 ++ argsF p pr t path vs (t.kids.drop i) i = L ++ visF p pr t path vs) ∧ L2.length + Tr.sizes (t.kids.drop i) ≤ L.length + t.size) ?_ (t.kids.length) _ ?_
   rotate_left
   ·exact ⟨0, o1, n1, _, [], B1, nx1, lv1, rfl, rfl, Nat.zero_le _, Lib.hid hB1, Lib.hid ha1, Lib.hid (by rw [zd0, zaa, visF_eq]; simp only [c_call, if_true]), by have h1 := rep_len pr path (faultE p t vs) t.name; have h2 := size_kids t; simp only [zla, zd0]; omega⟩
   rintro m σ ⟨i, o2, n2, L2, Z, B2, nx2, lv2, hσ, rfl, hi, hB2, ha2, hL2, hS2⟩
   generalize slotOf σ = x at hσ
   subst hσ
   have hn4 : ∀ j, j < t.kids.length → ((if (t.kids.map dN).isEmpty = true then 0 else 4) = 4) = True := fun j h => eq_true (sl_n (j := j) (by simpa using h))
   have g0 : B2[B.length]? = some (dG p).cells := by have := hB2.out.get Y.length; rw [← hB.len] at this; rw [this]; simp
   have g1 : B2[B.length + 1]? = some (dN t).cells := by have := hB2.out.get (Y.length + 1); rw [← Nat.add_assoc, ← hB.len] at this; rw [this, List.getElem?_append_right (by omega)]; simp
   have g0s := fun l => snoc_get g0 l
   have g1s := fun l => snoc_get g1 l
   have hsz : L2.length ≤ 1000000 := by omega
   refine X_seq ?_
   refine X_rg fun R hR => ?_
   simp only [nat_lt, aops, astep, awant, aeff, aop, abin, aint, ev, St.put, zg1, zg0, zgd, zmo, if_true, zs1, zs0]
   with_reducible refine hR _ ?_
   clear hR R
   show X _ _ _ _
   refine X_seq ?_
   refine X_ite (by simp only [ev, zg1, zg0, zgd]; exact rfl) ?_ ?_
   ·intro b6
    have c6 := b6
    try simp only [decide_eq_true_eq] at c6
    refine X_skip ?_
    show X _ _ _ _
    refine X_seq ?_
    refine X_block ?_
    refine X_seq ?_
    have hlt : i < t.kids.length := by first | assumption | omega
    have hn1 := hn4 i hlt
    have e1 : (t.kids.map dN)[i]? = some (dN t.kids[i]) := by simp [hlt]
    refine X_rg fun R hR => ?_
    simp only [EVP, app_get0, app_set0, nat_lt, nat_0, nat_to, aops, astep, awant, aeff, aop, astore, ev, St.put, zg1, zg0, zgd, zmo, zbs, if_true, zs1, zs0, zlm, zlc, zln, zd1, zd0, zt0, zca, zna, Nat.reduceAdd, Nat.reduceLeDiff, Nat.zero_add, and_self, decide_true, zis, ty_api_Node, und_api_Node, siz_api_Node, inf_api_Node_eq, dN_cells, dN_isAgg, dN_good, sl, sl, c6, hn1, e1]
    with_reducible refine hR _ ?_
    clear hR R
    show X _ _ _ _
    have hsp0 := size_ge1 t
    have hch := hpa.child (i : Int) (by omega)
    have har := arg_fn p t i vs hlt (by omega) hp
    simp only [sl] at hch har
    obtain ⟨_, B3, nx3, lv3, hc3, rfl, o3, n3, hB3, ha3⟩ := hRp.call (sl 1 ((path ++ [(i : Int)]).map dI)) (path ++ [(i : Int)]) t.kids[i].name (argE p t i vs) (B2 ++ [(dN t.kids[i]).cells]) (Y ++ ((dG p).cells :: (dN t).cells :: (Z ++ [(dN t.kids[i]).cells]))) nx2 lv2 o2 n2 L2 (IsP.sl _) (by simp; omega) hsz (by have := hB2.out.snoc (free1 t.kids[i]); simpa using this) ha2.out
    simp only [sl, dN_cells] at hc3
    refine X_rd 11 (by kernel_rfl) fun R hR => ?_
    simp only [EVP, app_get0, aops, astep, awant, aeff, aop, mkD, ev, St.put, pcall, ia_str, zmc, zmn, zg1, zg0, zgd, zmo, if_true, zs1, zs0, zlc, zln, zd1, zd0, zt1, zt0, zca, zna, Nat.reduceAdd, Nat.reduceLeDiff, Nat.zero_add, zft, if_false, reduceCtorEq, ty_string, ty_api_Node, ty_api_Program, any59, any60, dN_agg, dN_cells, sl, sl, dG_agg, g0s, g1s, hch, har, dG_cells]
    with_reducible refine hR _ ?_
    clear hR R
    refine Y_endC fun R hR => ?_
    simp only [EVP, aops, astep, awant, aeff, ev, St.put, zmc, zmn, zg1, zg0, zgd, zmo, if_true, zs1, zs0, zd1, zd0, zca, zna, hc3, hRp.any]
    with_reducible refine hR _ ?_
    clear hR R
    show X _ _ _ _
    have hbig : i < 9223372036854775807 := by have := Tr.length_kids t; omega
    refine X_rg fun R hR => ?_
    simp only [inr_i64, Int.reduceLE, Int.reduceNeg, aops, astep, awant, aeff, aop, abin, aint, ev, ofValue, St.put, zg1, zg0, zgd, zmo, if_true, zs1, zs0, and_self, nat_succ hbig]
    with_reducible refine hR _ ?_
    clear hR R
    show ∃ m, m < _ ∧ _
    have hsd := sizes_drop t.kids i hlt
    have hsp := size_ge1 t.kids[i]
    have hrl := rep_len pr (path ++ [(i : Int)]) (argE p t i vs) t.kids[i].name
    exact ⟨t.kids.length - (i + 1), by omega, i + 1, o3, n3, _, Z ++ [(dN t.kids[i]).cells], B3, nx3, lv3, rfl, rfl, by omega, Lib.hid hB3, Lib.hid ha3, Lib.hid (by rw [← hL2.out, argsF_drop p pr t path vs t.kids i hlt, zaa]), by rw [zla]; omega⟩
   ·intro b7
    have c7 := b7
    try simp only [decide_eq_false_iff_not] at c7
    refine X_exit ?_
    show X _ _ _ _
    refine X_ret ?_
    have hT : L2 = L ++ visF p pr t path vs := by rw [← hL2.out, lst_nil (by omega)]; simp only [argsF, List.append_nil]
    subst hT
    have hB5 := hB2.out.take (Y := Y) (X := (dG p).cells :: (dN t).cells :: Z)
    rw [← hB.len] at hB5
    refine ⟨.inr rfl, .tup [], rfl, rfl, ?_, ?_, rfl, o2, n2, hB5, ha2.out⟩
    ·show B.length ≤ B2.length; rw [hB2.out.len, hB.len]; simp
    ·have := hB5.un hRp.un; unfold UnB at this; rw [hB5.len, ← hB.len] at this; exact this
  ·intro b8
   have c8 := b8
   try simp only [ne_eq, beq_eq_false_iff_ne] at c8
   refine X_skip ?_
   show X _ _ _ _
   refine X_seq ?_
   refine X_rg fun R hR => ?_
   simp only [EVP, inr_i64, Int.reduceLE, Int.reduceNeg, aops, astep, awant, aeff, aop, mkD, ev, ofValue, St.put, ia_slice, zg1, zg0, zgd, zmo, if_true, zs1, zs0, zlm, zlc, zln, zd1, zd0, zt1, zt0, Nat.reduceAdd, Nat.reduceLeDiff, Nat.zero_add, zft, if_false, and_self, reduceCtorEq, ty_s_api_Node, ty_api_Node, und_api_Node, dN_cells, sl, sl, b8, g1]
   with_reducible refine hR _ ?_
   clear hR R
   show X _ _ _ _
   refine X_block ?_
   have c_call : (t.kind = 50 ∨ t.kind = 51) = False := by simp [c4, c8]
   refine X_loop (fun m σ => ∃ (i : Nat) (o2 : Own) (n2 : Nat) (L2 : List Ft) (Z : List (List D)) (B2 : List (List D)) (nx2 : Nat) (lv2 : List Nat), σ = ⟨[slotOf σ 0, slotOf σ 1, pa, .slice .imm (if (vs.map dV).isEmpty = true then 0 else 3) (vs.map dV), .fn k caps, .ptr B.length 0, .ptr (B.length + 1) 0, slotOf σ 7, slotOf σ 8, slotOf σ 9, slotOf σ 10, slotOf σ 11, slotOf σ 12, slotOf σ 13, slotOf σ 14, slotOf σ 15, slotOf σ 16, slotOf σ 17, slotOf σ 18, slotOf σ 19, slotOf σ 20, slotOf σ 21, slotOf σ 22, slotOf σ 23, slotOf σ 24, slotOf σ 25, slotOf σ 26, slotOf σ 27, slotOf σ 28, slotOf σ 29, slotOf σ 30, slotOf σ 31, slotOf σ 32, slotOf σ 33, slotOf σ 34, slotOf σ 35, slotOf σ 36, slotOf σ 37, slotOf σ 38, slotOf σ 39, slotOf σ 40, slotOf σ 41, slotOf σ 42, slotOf σ 43, slotOf σ 44, slotOf σ 45, slotOf σ 46, slotOf σ 47, slotOf σ 48, slotOf σ 49, slotOf σ 50, slotOf σ 51, slotOf σ 52, .slice .imm (if (t.kids.map dN).isEmpty = true then 0 else 4) (t.kids.map dN), .int .i64 t.kids.length, .int .i64 i, slotOf σ 56, slotOf σ 57, slotOf σ 58, slotOf σ 59, slotOf σ 60, slotOf σ 61, slotOf σ 62, slotOf σ 63, slotOf σ 64, slotOf σ 65, slotOf σ 66, slotOf σ 67, slotOf σ 68, slotOf σ 69, slotOf σ 70, slotOf σ 71], B2, nx2, lv2⟩ ∧ m = t.kids.length - i ∧ i ≤ t.kids.length ∧ Hid (Bx B0 fb L2 o2 n2 (Y ++ ((dG p).cells :: (dN t).cells :: Z)) B2) ∧ Hid (Acc 60 4 o2 n2 (L2.map dFt) lv2) ∧ Hid (L2 ++ visL p pr t path vs (t.kids.drop i) i = L ++ visF p pr t path vs) ∧ L2.length + Tr.sizes (t.kids.drop i) ≤ L.length + t.size) ?_ (t.kids.length) _ ?_
   rotate_left
   ·exact ⟨0, o1, n1, _, [], B1, nx1, lv1, rfl, rfl, Nat.zero_le _, Lib.hid hB1, Lib.hid ha1, Lib.hid (by rw [zd0, zaa, visF_eq]; simp only [c_call, if_false]), by have h1 := rep_len pr path (faultE p t vs) t.name; have h2 := size_kids t; simp only [zla, zd0]; omega⟩
   rintro m σ ⟨i, o2, n2, L2, Z, B2, nx2, lv2, hσ, rfl, hi, hB2, ha2, hL2, hS2⟩
   generalize slotOf σ = x at hσ
   subst hσ
   have hn4 : ∀ j, j < t.kids.length → ((if (t.kids.map dN).isEmpty = true then 0 else 4) = 4) = True := fun j h => eq_true (sl_n (j := j) (by simpa using h))
   have g0 : B2[B.length]? = some (dG p).cells := by have := hB2.out.get Y.length; rw [← hB.len] at this; rw [this]; simp
   have g1 : B2[B.length + 1]? = some (dN t).cells := by have := hB2.out.get (Y.length + 1); rw [← Nat.add_assoc, ← hB.len] at this; rw [this, List.getElem?_append_right (by omega)]; simp
   have g0s := fun l => snoc_get g0 l
   have g1s := fun l => snoc_get g1 l
   have hsz : L2.length ≤ 1000000 := by omega
   refine X_seq ?_
   refine X_rg fun R hR => ?_
   simp only [nat_lt, aops, astep, awant, aeff, aop, abin, aint, ev, St.put, zg1, zg0, zgd, zmo, if_true, zs1, zs0]
   with_reducible refine hR _ ?_
   clear hR R
   show X _ _ _ _
   refine X_seq ?_
   refine X_ite (by simp only [ev, zg1, zg0, zgd]; exact rfl) ?_ ?_
   ·intro b9
    have c9 := b9
    try simp only [decide_eq_true_eq] at c9
    refine X_skip ?_
    show X _ _ _ _
    refine X_seq ?_
    refine X_block ?_
    refine X_seq ?_
    have hlt : i < t.kids.length := by first | assumption | omega
    have hn1 := hn4 i hlt
    have e1 : (t.kids.map dN)[i]? = some (dN t.kids[i]) := by simp [hlt]
    refine X_rg fun R hR => ?_
    simp only [EVP, app_get0, app_set0, nat_lt, nat_0, nat_to, aops, astep, awant, aeff, aop, astore, ev, St.put, zg1, zg0, zgd, zmo, zbs, if_true, zs1, zs0, zlm, zlc, zln, zd1, zd0, zt0, zca, zna, Nat.reduceAdd, Nat.reduceLeDiff, Nat.zero_add, and_self, decide_true, zis, ty_api_Node, und_api_Node, siz_api_Node, inf_api_Node_eq, dN_cells, dN_isAgg, dN_good, sl, sl, c9, hn1, e1]
    with_reducible refine hR _ ?_
    clear hR R
    show X _ _ _ _
    have hch := hpa.child (i : Int) (by omega)
    have hin := inner_fn t (i : Int) vs (by omega)
    have hsk := Tr.size_kid hlt
    have hil := innerV_len t (i : Int) vs
    simp only [sl] at hch hin
    have hsz2 : L2.length + t.kids[i].size ≤ 1000000 := by have := sizes_drop t.kids i hlt; omega
    obtain ⟨_, B3, nx3, lv3, hc3, rfl, o3, n3, hB3, ha3⟩ := ih t.kids[i] hsk (sl 1 ((path ++ [(i : Int)]).map dI)) (path ++ [(i : Int)]) (innerV t i vs) (B2 ++ [(dN t.kids[i]).cells]) (Y ++ ((dG p).cells :: (dN t).cells :: (Z ++ [(dN t.kids[i]).cells]))) nx2 lv2 o2 n2 L2 (IsP.sl _) (by simp; omega) (by omega) hsz2 (by have := hB2.out.snoc (free1 t.kids[i]); simpa using this) ha2.out
    simp only [sl, dN_cells] at hc3
    refine X_rd 10 (by kernel_rfl) fun R hR => ?_
    simp only [EVP, app_get0, aops, astep, awant, aeff, aop, mkD, ev, St.put, pcall, zmc, zmn, zg1, zg0, zgd, zmo, if_true, zs1, zs0, zlc, zln, zd0, zt1, zt0, zca, zna, Nat.reduceAdd, Nat.reduceLeDiff, Nat.zero_add, ty_api_Node, ty_api_Program, any61, any59, dN_agg, dN_cells, sl, sl, dG_agg, g0s, g1s, hch, hin, dG_cells]
    with_reducible refine hR _ ?_
    clear hR R
    refine Y_endC fun R hR => ?_
    simp only [EVP, aops, astep, awant, aeff, ev, St.put, zmc, zmn, zg1, zg0, zgd, zmo, if_true, zs1, zs0, zd1, zd0, zca, zna, any37, hc3]
    with_reducible refine hR _ ?_
    clear hR R
    show X _ _ _ _
    have hbig : i < 9223372036854775807 := by have := Tr.length_kids t; omega
    refine X_rg fun R hR => ?_
    simp only [inr_i64, Int.reduceLE, Int.reduceNeg, aops, astep, awant, aeff, aop, abin, aint, ev, ofValue, St.put, zg1, zg0, zgd, zmo, if_true, zs1, zs0, and_self, nat_succ hbig]
    with_reducible refine hR _ ?_
    clear hR R
    show ∃ m, m < _ ∧ _
    have hsd := sizes_drop t.kids i hlt
    have hsp := size_ge1 t.kids[i]
    have hrl := visF_len p pr t.kids[i] (path ++ [(i : Int)]) (innerV t i vs)
    exact ⟨t.kids.length - (i + 1), by omega, i + 1, o3, n3, _, Z ++ [(dN t.kids[i]).cells], B3, nx3, lv3, rfl, rfl, by omega, Lib.hid hB3, Lib.hid ha3, Lib.hid (by rw [← hL2.out, visL_drop p pr t path vs t.kids i hlt, zaa]), by rw [zla]; omega⟩
   ·intro b10
    have c10 := b10
    try simp only [decide_eq_false_iff_not] at c10
    refine X_exit ?_
    have hT : L2 = L ++ visF p pr t path vs := by rw [← hL2.out, lst_nil (by omega)]; simp only [visL, List.append_nil]
    subst hT
    have hB5 := hB2.out.take (Y := Y) (X := (dG p).cells :: (dN t).cells :: Z)
    rw [← hB.len] at hB5
    refine ⟨.inl rfl, .tup [], rfl, rfl, ?_, ?_, rfl, o2, n2, hB5, ha2.out⟩
    ·show B.length ≤ B2.length; rw [hB2.out.len, hB.len]; simp
    ·have := hB5.un hRp.un; unfold UnB at this; rw [hB5.len, ← hB.len] at this; exact this
def vrF (pr : Int) (one : Bool) (l : List Vd) : List Vd → Nat → List Ft
 | [], _ => []
 | v :: r, i => rep pr (if one then [(i : Int)] else []) (freshE (l.take i) v.name) v.name ++ vrF pr one l r (i + 1)
def procF (p : Pg) (i : Nat) (q : Pr) : List Ft := (if procI p q.name < (i : Int) then [⟨i, [], 22, q.name⟩] else []) ++ (vrF i false q.params q.params 0 ++ visF p i q.body [] q.params)
def procsF (p : Pg) : List Pr → Nat → List Ft
 | [], _ => []
 | q :: r, i => procF p i q ++ procsF p r (i + 1)
def checkF (p : Pg) : List Ft := vrF (-1) true p.vars p.vars 0 ++ (procsF p p.procs 0 ++ visF p p.procs.length p.main [] p.vars)
theorem vrF_drop (pr : Int) (one : Bool) (l c : List Vd) (i : Nat) (h : i < c.length) : vrF pr one l (c.drop i) i = rep pr (if one then [(i : Int)] else []) (freshE (l.take i) c[i].name) c[i].name ++ vrF pr one l (c.drop (i + 1)) (i + 1) := by
 rw [List.drop_eq_getElem_cons h]; rfl
theorem procsF_drop (p : Pg) (c : List Pr) (i : Nat) (h : i < c.length) : procsF p (c.drop i) i = procF p i c[i] ++ procsF p (c.drop (i + 1)) (i + 1) := by
 rw [List.drop_eq_getElem_cons h]; rfl
theorem rep_22 (pr : Int) (path : List Int) (s : ByteArray) : rep pr path 22 s = [⟨pr, path, 22, s⟩] := rfl
theorem fresh_take (l : List Vd) (i : Nat) (s : ByteArray) (hl : l.length ≤ 1000000) : fn EV 35 [.slice .imm (if (l.map dV).isEmpty = true then 0 else 3) ((l.map dV).take i), .str s] = some (.int .i64 (freshE (l.take i) s)) := by
 have hpl : ∀ n (c : List Vd), plain [.slice .imm n (c.map dV), .str s] = true := by
  intro n c
  have h0 : D.under 0 (.slice .imm n (c.map dV)) = true := by simp only [D.under, unders_id (f := dV) (fun _ _ => rfl)]
  simp only [plain, List.all_cons, List.all_nil, h0, str_pl, Bool.and_true, Bool.true_and]; rfl
 rw [← List.map_take, fn_strip (args' := [sl 3 ((l.take i).map dV), .str s]) (hpl _ _) (hpl _ _)]
 ·exact fresh_fn _ s (by rw [List.length_take]; omega)
 ·simp only [zmc, zmn, D.strip, strips_id (f := dV) (fun _ => rfl), sl]
  congr 2
  cases l with
  | nil => simp
  | cons a r => cases i <;> simp
theorem valid_bd {p : Pg} (h : validB p = true) : p.vars.length ≤ 32 ∧ p.procs.length ≤ 64 ∧ (∀ q ∈ p.procs, q.params.length ≤ 8 ∧ q.body.size ≤ 2000 ∧ q.body.depth ≤ 80) ∧ p.main.size ≤ 2000 ∧ p.main.depth ≤ 80 := by
 simp only [validB, zat, znt, decide_eq_false_iff_not, List.all_eq_true] at h
 obtain ⟨⟨⟨⟨h1, h2⟩, h3⟩, h4⟩, h5⟩ := h
 refine ⟨by omega, by omega, fun q hq => ?_, ?_⟩
 ·have := h4 q hq
  simp only [procB, bodyB, zat, znt, decide_eq_false_iff_not, decide_eq_true_eq] at this
  exact ⟨by omega, this.2.1.2, this.2.1.1⟩
 ·simp only [bodyB, zat, decide_eq_true_eq] at h5
  exact ⟨h5.1.2, h5.1.1⟩
def Bc (p : Pg) (o : Own) (n : Nat) (L : List Ft) (r : List (List D)) : List (List D) := (dG p).cells :: [.slice o n (L.map dFt)] :: [.fn 33 [.ptr 1 0]] :: r
theorem unBc {p : Pg} {o : Own} {n : Nat} {L : List Ft} {r : List (List D)} (hr : Free r) : UnB (Bc p o n L r) := by
 unfold UnB
 rw [List.all_eq_true]
 intro x hx
 simp only [Bc, List.mem_cons] at hx
 rcases hx with rfl | rfl | rfl | hx
 ·have := dG_under (Bc p o n L r).length p; simpa [dG, D.under, D.cells] using this
 ·simp only [D.unders, D.under, unders_id dFt_under, Bool.and_true]
 ·simp [D.unders, D.under, Bc]
 ·exact hr x hx _
theorem BxBc {p : Pg} {o : Own} {n : Nat} {L : List Ft} {r : List (List D)} {o' : Own} {n' : Nat} {L' : List Ft} : Bx (Bc p o' n' L' r) 1 L o n [] (Bc p o n L r) := ⟨by simp [Bc], fun c hc => by simp at hc⟩
theorem BxBc' {p : Pg} {o : Own} {n : Nat} {L : List Ft} {r B : List (List D)} {o' : Own} {n' : Nat} {L' : List Ft} (h : Bx (Bc p o' n' L' r) 1 L o n [] B) : B = Bc p o n L r := by rw [h.1]; simp [Bc]
theorem freeV (v : Vd) : Free [[D.str v.name, .int .u8 v.kind, .int .i64 v.len]] := by
 intro c hc m; rw [List.mem_singleton.1 hc]; rfl
theorem Free.app {A B : List (List D)} (h : Free A) (h' : Free B) : Free (A ++ B) := by
 intro c hc m
 rcases List.mem_append.1 hc with q | q
 ·exact h c q m
 ·exact h' c q m
theorem Free.nil : Free [] := fun c hc => by simp at hc
def QC (q : Pr) : List D := [.str q.name, sl 3 (q.params.map dV), .int .u8 q.body.kind, .int .i64 q.body.num, .str q.body.name, sl 4 (q.body.kids.map dN)]
theorem freeQ (i : Int) (q : Pr) : Free [[.int .i64 i], QC q] := by
 intro c hc m
 simp only [List.mem_cons, List.not_mem_nil, or_false] at hc
 rcases hc with rfl | rfl
 ·rfl
 ·have := dP_under m q; simpa [dP, D.under, QC] using this
set_option maxRecDepth 100000 in
set_option maxHeartbeats 4000000 in
theorem check_fn (p : Pg) : fn EV 15 [dG p] = some (sl 4 ((if validB p = true then checkF p else []).map dFt)) := by
 refine fn_Xs rfl Try.func15 rfl (by simp only [plain, List.all_cons, List.all_nil, dG_pl, Bool.and_true]) (rfl) ?_
 simp only [zmc, zmn, dG_strip]
 simp only [enterSt, Try.ntmps15, zlc, zln, Nat.reduceAdd, Nat.reduceSub, zr1, zr0, zca, zna]
 refine X_seq ?_
 refine X_rg fun R hR => ?_
 simp only [aops, astep, awant, aeff, aop, ev, ofValue, St.put, zg0, zgd, zmo, if_true, zs1, zs0, zln, zna, dG_good, dG_cells]
 with_reducible refine hR _ ?_
 clear hR R
 show X _ _ _ _
 refine X_seq ?_
 refine X_seq ?_
 have hva := valid_fn p
 refine X_rg fun R hR => ?_
 simp only [EVP, aops, astep, awant, aeff, aop, mkD, ev, St.put, pcall, zmc, zmn, zg1, zg0, zgd, zmo, if_true, zs1, zs0, zlc, zln, zd0, zt1, zt0, zca, zna, Nat.reduceAdd, Nat.reduceLeDiff, Nat.zero_add, ty_api_Program, any14, dG_agg, hva]
 with_reducible refine hR _ ?_
 clear hR R
 show X _ _ _ _
 refine X_ite (by simp only [ev, zg1, zg0, zgd]; exact rfl) ?_ ?_
 ·intro b1
  have c1 := b1
  try simp only [znt] at c1
  refine X_seq ?_
  refine X_rg fun R hR => ?_
  simp only [aops, astep, awant, aeff, aop, ev, ofValue, St.put, zgd, zmo, if_true, zs1, zs0, Bool.not_false, c1]
  with_reducible refine hR _ ?_
  clear hR R
  show X _ _ _ _
  refine X_ret ?_
  show ∃ d, resD _ _ _ = some d ∧ _ ∧ _
  simp only [resD, resAll, resOne, resTup, Try.results15, EVP, zg1, zg0, D.good, if_true, zmo]
  first | exact ⟨_, rfl, rfl, by simp_all; rfl⟩ | (exfalso; simp_all; done)
 ·intro b2
  have c2 := b2
  try simp only [znf] at c2
  refine X_skip ?_
  show X _ _ _ _
  refine X_seq ?_
  obtain ⟨bv, bp, bq, bm, _⟩ := valid_bd (p := p) (by first | assumption | simp_all)
  refine X_rg fun R hR => ?_
  simp only [EVP, aops, astep, awant, aeff, St.put, zmo, zbs, if_true, zs1, zs0, zlc, zln, zca, zna, Nat.zero_add, Bool.not_true, ty_s_scope_Fault, c2]
  with_reducible refine hR _ ?_
  clear hR R
  show X _ _ _ _
  refine X_seq ?_
  refine X_rg fun R hR => ?_
  simp only [EVP, aops, astep, awant, aeff, aop, astore, ev, St.put, gd_ptr, ia_ptr, gd_fn, cl_fn, zmc, zmn, zg1, zg0, zgd, zmo, zbs, if_true, zs1, zs0, zlc, zln, zd1, zd0, zt0, zca, zna, Nat.reduceAdd, Nat.reduceLeDiff, Nat.zero_add, Bool.and_true, Bool.not_false, and_self, List.all_cons, List.all_nil, Array.isEmpty_empty, ty_func_int__s_int__string__api_Errno_]
  with_reducible refine hR _ ?_
  clear hR R
  show X _ _ _ _
  refine X_seq ?_
  refine X_seq ?_
  refine X_rg fun R hR => ?_
  simp only [EVP, inr_i64, Int.reduceLE, Int.reduceNeg, aops, astep, awant, aeff, aop, mkD, ev, ofValue, St.put, ia_slice, zg1, zg0, zgd, zmo, if_true, zs1, zs0, zlm, zlc, zln, zd0, zt1, zt0, Nat.reduceAdd, Nat.reduceLeDiff, Nat.zero_add, Nat.add_zero, zft, if_false, and_self, reduceCtorEq, ty_s_api_VarDecl, ty_api_Program, und_api_VarDecl]
  with_reducible refine hR _ ?_
  clear hR R
  show X _ _ _ _
  refine X_block ?_
  refine X_loop (fun m σ => ∃ (i : Nat) (o : Own) (n : Nat) (L : List Ft) (r : List (List D)) (nx : Nat) (lv : List Nat), σ = ⟨[slotOf σ 0, .ptr 0 0, slotOf σ 2, .ptr 1 0, .ptr 2 0, slotOf σ 5, slotOf σ 6, slotOf σ 7, slotOf σ 8, slotOf σ 9, slotOf σ 10, slotOf σ 11, slotOf σ 12, slotOf σ 13, slotOf σ 14, slotOf σ 15, .slice .imm (if (p.vars.map dV).isEmpty = true then 0 else 3) (p.vars.map dV), .int .i64 p.vars.length, .int .i64 i, slotOf σ 19, slotOf σ 20, slotOf σ 21, slotOf σ 22, slotOf σ 23, slotOf σ 24, slotOf σ 25, slotOf σ 26, slotOf σ 27, slotOf σ 28, slotOf σ 29, slotOf σ 30, slotOf σ 31, slotOf σ 32, slotOf σ 33, slotOf σ 34, slotOf σ 35, slotOf σ 36, slotOf σ 37, slotOf σ 38, slotOf σ 39, slotOf σ 40, slotOf σ 41, slotOf σ 42, slotOf σ 43, slotOf σ 44, slotOf σ 45, slotOf σ 46, slotOf σ 47, slotOf σ 48, slotOf σ 49, slotOf σ 50, slotOf σ 51, slotOf σ 52, slotOf σ 53, slotOf σ 54, slotOf σ 55, slotOf σ 56, slotOf σ 57, slotOf σ 58, slotOf σ 59, slotOf σ 60, slotOf σ 61, slotOf σ 62, slotOf σ 63, slotOf σ 64, slotOf σ 65, slotOf σ 66, slotOf σ 67, slotOf σ 68, slotOf σ 69, slotOf σ 70, slotOf σ 71, slotOf σ 72, slotOf σ 73, slotOf σ 74, slotOf σ 75, slotOf σ 76, slotOf σ 77, slotOf σ 78, slotOf σ 79, slotOf σ 80, slotOf σ 81, slotOf σ 82, slotOf σ 83, slotOf σ 84, slotOf σ 85, slotOf σ 86, slotOf σ 87, slotOf σ 88, slotOf σ 89, slotOf σ 90, slotOf σ 91, slotOf σ 92], [.slice .imm (if (p.vars.map dV).isEmpty = true then 0 else 3) (p.vars.map dV), .slice .imm (if (p.procs.map dP).isEmpty = true then 0 else 6) (p.procs.map dP), .int .u8 p.main.kind, .int .i64 p.main.num, .str p.main.name, .slice .imm (if (p.main.kids.map dN).isEmpty = true then 0 else 4) (p.main.kids.map dN)] :: [.slice o n (L.map dFt)] :: [.fn 33 [.ptr 1 0]] :: r, nx, lv⟩ ∧ m = p.vars.length - i ∧ i ≤ p.vars.length ∧ Hid (Free r) ∧ Hid (Acc 60 4 o n (L.map dFt) lv) ∧ Hid (L ++ vrF (-1) true p.vars (p.vars.drop i) i = vrF (-1) true p.vars p.vars 0) ∧ L.length ≤ i) ?_ (p.vars.length) _ ?_
  rotate_left
  ·exact ⟨0, .nil, 0, [], [], 0, [], rfl, rfl, Nat.zero_le _, Lib.hid Free.nil, Lib.hid (.nil _ _ _), Lib.hid rfl, Nat.le_refl _⟩
  rintro m σ ⟨i, o, n, L, r, nx, lv, hσ, rfl, hi, hr, ha, hL, hl⟩
  generalize slotOf σ = x at hσ
  subst hσ
  have hn3 : ∀ j, j < p.vars.length → ((if (p.vars.map dV).isEmpty = true then 0 else 3) = 3) = True := fun j h => eq_true (sl_n (j := j) (by simpa using h))
  refine X_seq ?_
  refine X_rg fun R hR => ?_
  simp only [nat_lt, aops, astep, awant, aeff, aop, abin, aint, ev, St.put, zg1, zg0, zgd, zmo, if_true, zs1, zs0]
  with_reducible refine hR _ ?_
  clear hR R
  show X _ _ _ _
  refine X_seq ?_
  refine X_ite (by simp only [ev, zg1, zg0, zgd]; exact rfl) ?_ ?_
  ·intro b3
   have c3 := b3
   try simp only [decide_eq_true_eq] at c3
   refine X_skip ?_
   show X _ _ _ _
   refine X_seq ?_
   refine X_block ?_
   refine X_seq ?_
   have hlt : i < p.vars.length := by first | assumption | omega
   have hn1 := hn3 i hlt
   have e1 : (p.vars.map dV)[i]? = some (dV p.vars[i]) := by simp [hlt]
   refine X_rg fun R hR => ?_
   simp only [EVP, app_get0, app_set0, nat_lt, nat_0, nat_to, aops, astep, awant, aeff, aop, astore, ev, St.put, gd_agg, ia_agg, cl_agg, zg1, zg0, zgd, zmo, zbs, if_true, zs1, zs0, zlm, zlc, zln, zd1, zd0, zt0, zca, zna, Nat.reduceAdd, Nat.reduceLeDiff, Nat.zero_add, and_self, decide_true, zis, ty_api_VarDecl, und_api_VarDecl, siz_api_VarDecl, inf_api_VarDecl_eq, dV, c3, hn1, e1]
   with_reducible refine hR _ ?_
   clear hR R
   show X _ _ _ _
   have hfr := fresh_take p.vars i p.vars[i].name (by omega)
   have hle : ((i : Int) ≤ (p.vars.length : Int)) = True := by simp; omega
   obtain ⟨_, B4, nx4, lv4, hc4, rfl, o4, n4, hB4, ha4⟩ := report_cal (-1) (.slice (.own nx 3) 1 [.int .i64 i]) [(i : Int)] p.vars[i].name (freshE (p.vars.take i) p.vars[i].name) 1 (Bc p o n L (r ++ [[.str p.vars[i].name, .int .u8 p.vars[i].kind, .int .i64 p.vars[i].len]])) (nx + 1) (nx :: lv) o n L ⟨rfl, rfl, rfl⟩ (by simp) (by omega) rfl (ha.out.more nx) (unBc (hr.out.app (freeV _)))
   simp only [Bc, dG_cells, zs1, zs0] at hc4 hB4
   subst hB4
   refine X_rd 12 (by kernel_rfl) fun R hR => ?_
   simp only [EVP, Int.reduceNeg, app_get0, nat_to, aops, astep, awant, aeff, aop, mkD, idx, aslice, abuild, ev, ofValue, St.put, pcall, gd_int, cl_int, ia_str, ia_slice, ia_fn, zmc, zmn, zg1, zg0, zgd, zmo, Option.map_none, if_true, zs1, zs0, zlm, zlc, zln, zd0, zt1, zt0, zca, zna, Nat.reduceAdd, Nat.reduceLeDiff, Nat.reduceLT, Nat.zero_add, Nat.add_zero, Bool.and_true, zft, if_false, and_self, reduceCtorEq, List.all_cons, List.all_nil, beq_self_eq_true, zis, Nat.reduceMul, rng_1, ty_string, ty_s_api_VarDecl, ty_api_VarDecl, ty_api_Program, und_int, inf_int_eq, inf_int_size, inf_int_zero, und_api_VarDecl, siz_api_VarDecl, inf_api_VarDecl_eq, ty_func_int__s_int__string__api_Errno_, any35, hfr, hle, nat_le, sl_or, Nat.sub_zero, Nat.zero_le, zd0]
   with_reducible refine hR _ ?_
   clear hR R
   refine Y_endC fun R hR => ?_
   simp only [EVP, inr_i64, Int.reduceLE, Int.reduceNeg, aops, astep, awant, aeff, ev, ofValue, St.put, zmc, zmn, zg1, zg0, zgd, zmo, if_true, zs1, zs0, zd1, zd0, zca, zna, and_self, any33, hc4, any33, zd0]
   with_reducible refine hR _ ?_
   clear hR R
   show X _ _ _ _
   have hbig : i < 9223372036854775807 := by omega
   refine X_rg fun R hR => ?_
   simp only [inr_i64, Int.reduceLE, Int.reduceNeg, aops, astep, awant, aeff, aop, abin, aint, ev, ofValue, St.put, zg1, zg0, zgd, zmo, if_true, zs1, zs0, and_self, nat_succ hbig]
   with_reducible refine hR _ ?_
   clear hR R
   show ∃ m, m < _ ∧ _
   have hrl := rep_len (-1) [(i : Int)] (freshE (p.vars.take i) p.vars[i].name) p.vars[i].name
   exact ⟨p.vars.length - (i + 1), by omega, i + 1, o4, n4, _, _, nx4, lv4, rfl, rfl, by omega, Lib.hid (hr.out.app (freeV _)), Lib.hid ha4, Lib.hid (by rw [← hL.out, vrF_drop (-1) true p.vars p.vars i hlt, zaa]; rfl), by rw [zla]; omega⟩
  ·intro b4
   have c4 := b4
   try simp only [decide_eq_false_iff_not] at c4
   refine X_exit ?_
   show X _ _ _ _
   refine X_seq ?_
   refine X_seq ?_
   refine X_rg fun R hR => ?_
   simp only [EVP, inr_i64, Int.reduceLE, Int.reduceNeg, aops, astep, awant, aeff, aop, mkD, ev, ofValue, St.put, ia_slice, zg1, zg0, zgd, zmo, if_true, zs1, zs0, zlm, zlc, zln, zd1, zd0, zt1, zt0, Nat.reduceAdd, Nat.reduceLeDiff, Nat.zero_add, zft, if_false, and_self, reduceCtorEq, decide_false, ty_s_api_Proc, ty_api_Program, und_api_Proc, c4]
   with_reducible refine hR _ ?_
   clear hR R
   show X _ _ _ _
   refine X_block ?_
   refine X_loop (fun m σ => ∃ (i : Nat) (o : Own) (n : Nat) (L : List Ft) (r : List (List D)) (nx : Nat) (lv : List Nat), σ = ⟨[slotOf σ 0, .ptr 0 0, slotOf σ 2, .ptr 1 0, .ptr 2 0, slotOf σ 5, slotOf σ 6, slotOf σ 7, slotOf σ 8, slotOf σ 9, slotOf σ 10, slotOf σ 11, slotOf σ 12, slotOf σ 13, slotOf σ 14, slotOf σ 15, slotOf σ 16, slotOf σ 17, slotOf σ 18, slotOf σ 19, slotOf σ 20, slotOf σ 21, slotOf σ 22, slotOf σ 23, slotOf σ 24, slotOf σ 25, slotOf σ 26, slotOf σ 27, slotOf σ 28, slotOf σ 29, slotOf σ 30, slotOf σ 31, slotOf σ 32, slotOf σ 33, slotOf σ 34, slotOf σ 35, slotOf σ 36, slotOf σ 37, .slice .imm (if (p.procs.map dP).isEmpty = true then 0 else 6) (p.procs.map dP), .int .i64 p.procs.length, .int .i64 i, slotOf σ 41, slotOf σ 42, slotOf σ 43, slotOf σ 44, slotOf σ 45, slotOf σ 46, slotOf σ 47, slotOf σ 48, slotOf σ 49, slotOf σ 50, slotOf σ 51, slotOf σ 52, slotOf σ 53, slotOf σ 54, slotOf σ 55, slotOf σ 56, slotOf σ 57, slotOf σ 58, slotOf σ 59, slotOf σ 60, slotOf σ 61, slotOf σ 62, slotOf σ 63, slotOf σ 64, slotOf σ 65, slotOf σ 66, slotOf σ 67, slotOf σ 68, slotOf σ 69, slotOf σ 70, slotOf σ 71, slotOf σ 72, slotOf σ 73, slotOf σ 74, slotOf σ 75, slotOf σ 76, slotOf σ 77, slotOf σ 78, slotOf σ 79, slotOf σ 80, slotOf σ 81, slotOf σ 82, slotOf σ 83, slotOf σ 84, slotOf σ 85, slotOf σ 86, slotOf σ 87, slotOf σ 88, slotOf σ 89, slotOf σ 90, slotOf σ 91, slotOf σ 92], [.slice .imm (if (p.vars.map dV).isEmpty = true then 0 else 3) (p.vars.map dV), .slice .imm (if (p.procs.map dP).isEmpty = true then 0 else 6) (p.procs.map dP), .int .u8 p.main.kind, .int .i64 p.main.num, .str p.main.name, .slice .imm (if (p.main.kids.map dN).isEmpty = true then 0 else 4) (p.main.kids.map dN)] :: [.slice o n (L.map dFt)] :: [.fn 33 [.ptr 1 0]] :: r, nx, lv⟩ ∧ m = p.procs.length - i ∧ i ≤ p.procs.length ∧ Hid (Free r) ∧ Hid (Acc 60 4 o n (L.map dFt) lv) ∧ Hid (L ++ procsF p (p.procs.drop i) i = vrF (-1) true p.vars p.vars 0 ++ procsF p p.procs 0) ∧ L.length ≤ 32 + 2009 * i) ?_ (p.procs.length) _ ?_
   rotate_left
   ·exact ⟨0, o, n, L, r, nx, lv, rfl, rfl, Nat.zero_le _, hr, ha, Lib.hid (by have := hL.out; rw [List.drop_of_length_le (by omega)] at this; simp only [vrF, List.append_nil] at this; rw [this]; rfl), by omega⟩
   rintro m σ ⟨i, o, n, L, r, nx, lv, hσ, rfl, hi, hr, ha, hL, hl⟩
   generalize slotOf σ = x at hσ
   subst hσ
   have hn6 : ∀ j, j < p.procs.length → ((if (p.procs.map dP).isEmpty = true then 0 else 6) = 6) = True := fun j h => eq_true (sl_n (j := j) (by simpa using h))
   refine X_seq ?_
   refine X_rg fun R hR => ?_
   simp only [nat_lt, aops, astep, awant, aeff, aop, abin, aint, ev, St.put, zg1, zg0, zgd, zmo, if_true, zs1, zs0]
   with_reducible refine hR _ ?_
   clear hR R
   show X _ _ _ _
   refine X_seq ?_
   refine X_ite (by simp only [ev, zg1, zg0, zgd]; exact rfl) ?_ ?_
   ·intro b5
    have c5 := b5
    try simp only [decide_eq_true_eq] at c5
    refine X_skip ?_
    show X _ _ _ _
    refine X_seq ?_
    refine X_block ?_
    refine X_seq ?_
    have hlt : i < p.procs.length := by first | assumption | omega
    have hn1 := hn6 i hlt
    have e1 : (p.procs.map dP)[i]? = some (dP p.procs[i]) := by simp [hlt]
    obtain ⟨bq1, bq2, _⟩ := bq p.procs[i] (List.getElem_mem hlt)
    refine X_rg fun R hR => ?_
    simp only [EVP, app_get0, app_get1, app_set0, app_set1, nat_lt, nat_0, nat_to, aops, astep, awant, aeff, aop, astore, ev, St.put, gd_int, cl_int, gd_agg, ia_agg, cl_agg, zg1, zg0, zgd, zmo, zbs, if_true, zs1, zs0, zlm, zlc, zln, zd1, zd0, zt0, zca, zna, zaa, Nat.reduceAdd, Nat.reduceLeDiff, Nat.zero_add, and_self, decide_true, zis, ty_int, ty_api_Proc, und_api_Proc, siz_api_Proc, inf_api_Proc_eq, sl, sl, dP, c5, hn1, e1, zla]
    with_reducible refine hR _ ?_
    clear hR R
    show X _ _ _ _
    refine X_seq ?_
    refine X_seq ?_
    have hpi := proc_fn p p.procs[i].name (by omega)
    have hpi2 : idxN p.procs p.procs[i].name 0 p.procs.length = procI p p.procs[i].name := rfl
    rw [hpi2] at hpi
    refine X_rg fun R hR => ?_
    simp only [EVP, app_get0, app_get1, aops, astep, awant, aeff, aop, abin, aint, mkD, ev, St.put, pcall, ia_int, ia_str, zmc, zmn, zg1, zg0, zgd, zmo, if_true, zs1, zs0, zlc, zln, zd0, zt1, zt0, zca, zna, Nat.reduceAdd, Nat.reduceLeDiff, Nat.zero_add, Nat.add_zero, zft, if_false, reduceCtorEq, ty_int, ty_string, ty_api_Proc, ty_api_Program, any36, dG_agg, hpi]
    with_reducible refine hR _ ?_
    clear hR R
    show X _ _ _ _
    refine X_ite (by simp only [ev, zg1, zg0, zgd]; exact rfl) ?_ ?_
    ·intro b6
     have c6 := b6
     try simp only [decide_eq_true_eq] at c6
     obtain ⟨_, B4, nx4, lv4, hc4, rfl, o4, n4, hB4, ha4⟩ := report_cal (i : Int) (.slice .nil 0 []) [] p.procs[i].name 22 1 (Bc p o n L (r ++ [[.int .i64 i], QC p.procs[i]])) nx lv o n L IsP.nil (by simp) (by omega) rfl ha.out (unBc (hr.out.app (freeQ i p.procs[i])))
     simp only [Bc, dG_cells, zs1, zs0, rep_22, QC, sl] at hc4 hB4 ha4
     subst hB4
     refine X_rc fun R hR => ?_
     simp only [EVP, inr_i64, Int.reduceLE, Int.reduceNeg, app_get0, app_get1, aops, astep, awant, aeff, aop, mkD, ev, ofValue, St.put, ia_int, ia_str, ia_fn, zmc, zmn, zg1, zg0, zgd, zmo, if_true, zs1, zs0, zlc, zln, zd0, zt1, zt0, zca, zna, Nat.reduceAdd, Nat.reduceLeDiff, Nat.zero_add, Nat.add_zero, zft, if_false, and_self, reduceCtorEq, decide_true, ty_int, ty_string, ty_api_Proc, ty_func_int__s_int__string__api_Errno_, any33, c6, hc4, any33]
     with_reducible refine hR _ ?_
     clear hR R
     show X _ _ _ _
     refine X_seq ?_
     refine X_seq ?_
     refine X_rg fun R hR => ?_
     simp only [EVP, inr_i64, Int.reduceLE, Int.reduceNeg, app_get1, aops, astep, awant, aeff, aop, mkD, ev, ofValue, St.put, ia_slice, zg1, zg0, zgd, zmo, if_true, zs1, zs0, zlm, zlc, zln, zd1, zd0, zt1, zt0, Nat.reduceAdd, Nat.reduceLeDiff, Nat.zero_add, zft, if_false, and_self, reduceCtorEq, ty_s_api_VarDecl, ty_api_Proc, und_api_VarDecl]
     with_reducible refine hR _ ?_
     clear hR R
     show X _ _ _ _
     refine X_block ?_
     refine X_loop (fun m σ => ∃ (j : Nat) (o3 : Own) (n3 : Nat) (L3 : List Ft) (r3 : List (List D)) (nx3 : Nat) (lv3 : List Nat), σ = ⟨[slotOf σ 0, .ptr 0 0, slotOf σ 2, .ptr 1 0, .ptr 2 0, slotOf σ 5, slotOf σ 6, .ptr (r.length + 1 + 1 + 1) 0, .ptr (r.length + 1 + 1 + 1 + 1) 0, slotOf σ 9, slotOf σ 10, slotOf σ 11, slotOf σ 12, slotOf σ 13, slotOf σ 14, slotOf σ 15, slotOf σ 16, slotOf σ 17, slotOf σ 18, slotOf σ 19, slotOf σ 20, slotOf σ 21, slotOf σ 22, slotOf σ 23, slotOf σ 24, slotOf σ 25, slotOf σ 26, slotOf σ 27, slotOf σ 28, slotOf σ 29, slotOf σ 30, slotOf σ 31, slotOf σ 32, slotOf σ 33, slotOf σ 34, slotOf σ 35, slotOf σ 36, slotOf σ 37, .slice .imm (if (p.procs.map dP).isEmpty = true then 0 else 6) (p.procs.map dP), .int .i64 p.procs.length, .int .i64 i, slotOf σ 41, slotOf σ 42, slotOf σ 43, slotOf σ 44, slotOf σ 45, slotOf σ 46, slotOf σ 47, slotOf σ 48, slotOf σ 49, slotOf σ 50, slotOf σ 51, slotOf σ 52, slotOf σ 53, slotOf σ 54, slotOf σ 55, slotOf σ 56, .slice .imm (if (p.procs[i].params.map dV).isEmpty = true then 0 else 3) (p.procs[i].params.map dV), .int .i64 p.procs[i].params.length, .int .i64 j, slotOf σ 60, slotOf σ 61, slotOf σ 62, slotOf σ 63, slotOf σ 64, slotOf σ 65, slotOf σ 66, slotOf σ 67, slotOf σ 68, slotOf σ 69, slotOf σ 70, slotOf σ 71, slotOf σ 72, slotOf σ 73, slotOf σ 74, slotOf σ 75, slotOf σ 76, slotOf σ 77, slotOf σ 78, slotOf σ 79, slotOf σ 80, slotOf σ 81, slotOf σ 82, slotOf σ 83, slotOf σ 84, slotOf σ 85, slotOf σ 86, slotOf σ 87, slotOf σ 88, slotOf σ 89, slotOf σ 90, slotOf σ 91, slotOf σ 92], [.slice .imm (if (p.vars.map dV).isEmpty = true then 0 else 3) (p.vars.map dV), .slice .imm (if (p.procs.map dP).isEmpty = true then 0 else 6) (p.procs.map dP), .int .u8 p.main.kind, .int .i64 p.main.num, .str p.main.name, .slice .imm (if (p.main.kids.map dN).isEmpty = true then 0 else 4) (p.main.kids.map dN)] :: [.slice o3 n3 (L3.map dFt)] :: [.fn 33 [.ptr 1 0]] :: r3, nx3, lv3⟩ ∧ m = p.procs[i].params.length - j ∧ j ≤ p.procs[i].params.length ∧ Hid (Free r3) ∧ Hid (Acc 60 4 o3 n3 (L3.map dFt) lv3) ∧ Hid (L3 ++ vrF i false p.procs[i].params (p.procs[i].params.drop j) j = L ++ (if procI p p.procs[i].name < (i : Int) then [⟨i, [], 22, p.procs[i].name⟩] else []) ++ vrF i false p.procs[i].params p.procs[i].params 0) ∧ L3.length ≤ L.length + 1 + j ∧ r3[r.length]? = some [.int .i64 i] ∧ r3[r.length + 1]? = some (QC p.procs[i])) ?_ (p.procs[i].params.length) _ ?_
     rotate_left
     ·exact ⟨0, o4, n4, L ++ [⟨i, [], 22, p.procs[i].name⟩], _, _, _, rfl, rfl, Nat.zero_le _, Lib.hid (hr.out.app (freeQ i p.procs[i])), Lib.hid ha4, Lib.hid (by simp only [c6, if_true, zd0]), by (first | (simp; done) | (simp; omega)), app_get0 _ _, app_get1 _ _⟩
     rintro m σ ⟨j, o3, n3, L3, r3, nx3, lv3, hσ, rfl, hj, hr3, ha3, hL3, hl3, a0, a1⟩
     generalize slotOf σ = x at hσ
     subst hσ
     have hn33 : ∀ j, j < p.procs[i].params.length → ((if (p.procs[i].params.map dV).isEmpty = true then 0 else 3) = 3) = True := fun j h => eq_true (sl_n (j := j) (by simpa using h))
     simp only [QC, sl] at a1
     have a0s := fun l => snoc_get a0 l
     have a1s := fun l => snoc_get a1 l
     refine X_seq ?_
     refine X_rg fun R hR => ?_
     simp only [nat_lt, aops, astep, awant, aeff, aop, abin, aint, ev, St.put, zg1, zg0, zgd, zmo, if_true, zs1, zs0]
     with_reducible refine hR _ ?_
     clear hR R
     show X _ _ _ _
     refine X_seq ?_
     refine X_ite (by simp only [ev, zg1, zg0, zgd]; exact rfl) ?_ ?_
     ·intro b7
      have c7 := b7
      try simp only [decide_eq_true_eq] at c7
      refine X_skip ?_
      show X _ _ _ _
      refine X_seq ?_
      refine X_block ?_
      refine X_seq ?_
      have hlj : j < p.procs[i].params.length := by first | assumption | omega
      have hn1 := hn33 j hlj
      have e1 : (p.procs[i].params.map dV)[j]? = some (dV p.procs[i].params[j]) := by simp [hlj]
      refine X_rg fun R hR => ?_
      simp only [EVP, app_get0, app_set0, nat_lt, nat_0, nat_to, aops, astep, awant, aeff, aop, astore, ev, St.put, gd_agg, ia_agg, cl_agg, zg1, zg0, zgd, zmo, zbs, if_true, zs1, zs0, zlm, zlc, zln, zd1, zd0, zt0, zca, zna, Nat.reduceAdd, Nat.reduceLeDiff, Nat.zero_add, and_self, decide_true, zis, ty_api_VarDecl, und_api_VarDecl, siz_api_VarDecl, inf_api_VarDecl_eq, dV, c7, hn1, e1]
      with_reducible refine hR _ ?_
      clear hR R
      show X _ _ _ _
      have hfr := fresh_take p.procs[i].params j p.procs[i].params[j].name (by omega)
      have hle : ((j : Int) ≤ (p.procs[i].params.length : Int)) = True := by simp; omega
      obtain ⟨_, B4, nx4, lv4, hc4, rfl, o4, n4, hB4, ha4⟩ := report_cal (i : Int) (.slice .nil 0 []) [] p.procs[i].params[j].name (freshE (p.procs[i].params.take j) p.procs[i].params[j].name) 1 (Bc p o3 n3 L3 (r3 ++ [[.str p.procs[i].params[j].name, .int .u8 p.procs[i].params[j].kind, .int .i64 p.procs[i].params[j].len]])) nx3 lv3 o3 n3 L3 IsP.nil (by simp) (by omega) rfl ha3.out (unBc (hr3.out.app (freeV _)))
      simp only [Bc, dG_cells, zs1, zs0] at hc4 hB4
      subst hB4
      refine X_rd 11 (by kernel_rfl) fun R hR => ?_
      simp only [EVP, app_get0, nat_to, aops, astep, awant, aeff, aop, mkD, idx, aslice, ev, St.put, pcall, ia_int, ia_str, ia_slice, ia_fn, zmc, zmn, zg1, zg0, zgd, zmo, Option.map_none, if_true, zs1, zs0, zlm, zlc, zln, zd1, zd0, zt1, zt0, zca, zna, Nat.reduceAdd, Nat.reduceLeDiff, Nat.zero_add, Nat.add_zero, zft, if_false, and_self, reduceCtorEq, zis, ty_int, ty_string, ty_s_api_VarDecl, ty_api_VarDecl, ty_api_Proc, und_api_VarDecl, siz_api_VarDecl, inf_api_VarDecl_eq, ty_func_int__s_int__string__api_Errno_, any35, hfr, hle, nat_le, sl_or, Nat.sub_zero, Nat.zero_le, zd0, a0s, a1s]
      with_reducible refine hR _ ?_
      clear hR R
      refine Y_endC fun R hR => ?_
      simp only [EVP, aops, astep, awant, aeff, ev, ofValue, St.put, zmc, zmn, zg1, zg0, zgd, zmo, if_true, zs1, zs0, zd1, zd0, zca, zna, any33, hc4, any33, zd0]
      with_reducible refine hR _ ?_
      clear hR R
      show X _ _ _ _
      have hbj : j < 9223372036854775807 := by omega
      refine X_rg fun R hR => ?_
      simp only [inr_i64, Int.reduceLE, Int.reduceNeg, aops, astep, awant, aeff, aop, abin, aint, ev, ofValue, St.put, zg1, zg0, zgd, zmo, if_true, zs1, zs0, and_self, nat_succ hbj]
      with_reducible refine hR _ ?_
      clear hR R
      show ∃ m, m < _ ∧ _
      have hrl := rep_len (i : Int) [] (freshE (p.procs[i].params.take j) p.procs[i].params[j].name) p.procs[i].params[j].name
      exact ⟨p.procs[i].params.length - (j + 1), by omega, j + 1, o4, n4, _, _, nx4, lv4, rfl, rfl, by omega, Lib.hid (hr3.out.app (freeV _)), Lib.hid ha4, Lib.hid (by rw [← hL3.out, vrF_drop i false p.procs[i].params p.procs[i].params j hlj, zaa]; rfl), by rw [zla]; omega, snoc_get a0 _, snoc_get a1 _⟩
     ·intro b8
      have c8 := b8
      try simp only [decide_eq_false_iff_not] at c8
      refine X_exit ?_
      show X _ _ _ _
      have hrp := rep2 (i : Int) (Bc p o3 n3 L3 r3) 1 2 (r.length + 3) rfl (by simp [Bc, a0]) (by omega) (by omega) (by simp [Bc]) (unBc hr3.out)
      obtain ⟨_, B5, nx5, lv5, hc5, rfl, o5, n5, hB5, ha5⟩ := visit_cal (p := p) (by omega) hrp p.procs[i].body.size p.procs[i].body (Nat.le_refl _) (.slice .nil 0 []) [] p.procs[i].params (Bc p o3 n3 L3 r3) [] nx3 lv3 o3 n3 L3 IsP.nil (by simp; omega) (by omega) (by omega) BxBc ha3.out
      rw [BxBc' hB5] at hc5
      simp only [Bc, dG_cells, sl] at hc5
      refine X_rc fun R hR => ?_
      simp only [EVP, aops, astep, awant, aeff, aop, mkD, ev, ofValue, St.put, ia_slice, gd_ptr, ia_ptr, zmc, zmn, zg1, zg0, zgd, zmo, if_true, zs1, zs0, zlc, zln, zd1, zd0, zt1, zt0, zca, zna, Nat.reduceAdd, Nat.reduceLeDiff, Nat.zero_add, Bool.and_true, Bool.not_false, zft, if_false, and_self, reduceCtorEq, List.all_cons, List.all_nil, decide_false, Array.isEmpty_empty, ty_s_api_VarDecl, ty_api_Node, ty_api_Proc, ty_api_Program, any37, dN_agg, dG_agg, c8, a1, hc5]
      with_reducible refine hR _ ?_
      clear hR R
      show X _ _ _ _
      have hbig : i < 9223372036854775807 := by omega
      refine X_rg fun R hR => ?_
      simp only [inr_i64, Int.reduceLE, Int.reduceNeg, aops, astep, awant, aeff, aop, abin, aint, ev, ofValue, St.put, zg1, zg0, zgd, zmo, if_true, zs1, zs0, and_self, nat_succ hbig]
      with_reducible refine hR _ ?_
      clear hR R
      show ∃ m, m < _ ∧ _
      have hvl5 := visF_len p i p.procs[i].body [] p.procs[i].params
      exact ⟨p.procs.length - (i + 1), by omega, i + 1, o5, n5, _, r3, nx5, lv5, rfl, rfl, by omega, hr3, Lib.hid ha5, Lib.hid (by have h1 := hL3.out; rw [List.drop_of_length_le (by omega)] at h1; simp only [vrF, List.append_nil] at h1; rw [← hL.out, procsF_drop p p.procs i hlt, h1, procF]; simp only [zaa]), by rw [zla]; omega⟩
    ·intro b9
     have c9 := b9
     try simp only [decide_eq_false_iff_not, Int.not_lt] at c9
     refine X_skip ?_
     show X _ _ _ _
     refine X_seq ?_
     refine X_seq ?_
     refine X_rg fun R hR => ?_
     simp only [EVP, inr_i64, Int.reduceLE, Int.reduceNeg, app_get1, aops, astep, awant, aeff, aop, mkD, ev, ofValue, St.put, ia_slice, zg1, zg0, zgd, zmo, if_true, zs1, zs0, zlm, zlc, zln, zd1, zd0, zt1, zt0, Nat.reduceAdd, Nat.reduceLeDiff, Nat.zero_add, zft, if_false, and_self, reduceCtorEq, ty_s_api_VarDecl, ty_api_Proc, und_api_VarDecl, b9]
     with_reducible refine hR _ ?_
     clear hR R
     show X _ _ _ _
     refine X_block ?_
     refine X_loop (fun m σ => ∃ (j : Nat) (o3 : Own) (n3 : Nat) (L3 : List Ft) (r3 : List (List D)) (nx3 : Nat) (lv3 : List Nat), σ = ⟨[slotOf σ 0, .ptr 0 0, slotOf σ 2, .ptr 1 0, .ptr 2 0, slotOf σ 5, slotOf σ 6, .ptr (r.length + 1 + 1 + 1) 0, .ptr (r.length + 1 + 1 + 1 + 1) 0, slotOf σ 9, slotOf σ 10, slotOf σ 11, slotOf σ 12, slotOf σ 13, slotOf σ 14, slotOf σ 15, slotOf σ 16, slotOf σ 17, slotOf σ 18, slotOf σ 19, slotOf σ 20, slotOf σ 21, slotOf σ 22, slotOf σ 23, slotOf σ 24, slotOf σ 25, slotOf σ 26, slotOf σ 27, slotOf σ 28, slotOf σ 29, slotOf σ 30, slotOf σ 31, slotOf σ 32, slotOf σ 33, slotOf σ 34, slotOf σ 35, slotOf σ 36, slotOf σ 37, .slice .imm (if (p.procs.map dP).isEmpty = true then 0 else 6) (p.procs.map dP), .int .i64 p.procs.length, .int .i64 i, slotOf σ 41, slotOf σ 42, slotOf σ 43, slotOf σ 44, slotOf σ 45, slotOf σ 46, slotOf σ 47, slotOf σ 48, slotOf σ 49, slotOf σ 50, slotOf σ 51, slotOf σ 52, slotOf σ 53, slotOf σ 54, slotOf σ 55, slotOf σ 56, .slice .imm (if (p.procs[i].params.map dV).isEmpty = true then 0 else 3) (p.procs[i].params.map dV), .int .i64 p.procs[i].params.length, .int .i64 j, slotOf σ 60, slotOf σ 61, slotOf σ 62, slotOf σ 63, slotOf σ 64, slotOf σ 65, slotOf σ 66, slotOf σ 67, slotOf σ 68, slotOf σ 69, slotOf σ 70, slotOf σ 71, slotOf σ 72, slotOf σ 73, slotOf σ 74, slotOf σ 75, slotOf σ 76, slotOf σ 77, slotOf σ 78, slotOf σ 79, slotOf σ 80, slotOf σ 81, slotOf σ 82, slotOf σ 83, slotOf σ 84, slotOf σ 85, slotOf σ 86, slotOf σ 87, slotOf σ 88, slotOf σ 89, slotOf σ 90, slotOf σ 91, slotOf σ 92], [.slice .imm (if (p.vars.map dV).isEmpty = true then 0 else 3) (p.vars.map dV), .slice .imm (if (p.procs.map dP).isEmpty = true then 0 else 6) (p.procs.map dP), .int .u8 p.main.kind, .int .i64 p.main.num, .str p.main.name, .slice .imm (if (p.main.kids.map dN).isEmpty = true then 0 else 4) (p.main.kids.map dN)] :: [.slice o3 n3 (L3.map dFt)] :: [.fn 33 [.ptr 1 0]] :: r3, nx3, lv3⟩ ∧ m = p.procs[i].params.length - j ∧ j ≤ p.procs[i].params.length ∧ Hid (Free r3) ∧ Hid (Acc 60 4 o3 n3 (L3.map dFt) lv3) ∧ Hid (L3 ++ vrF i false p.procs[i].params (p.procs[i].params.drop j) j = L ++ (if procI p p.procs[i].name < (i : Int) then [⟨i, [], 22, p.procs[i].name⟩] else []) ++ vrF i false p.procs[i].params p.procs[i].params 0) ∧ L3.length ≤ L.length + 1 + j ∧ r3[r.length]? = some [.int .i64 i] ∧ r3[r.length + 1]? = some (QC p.procs[i])) ?_ (p.procs[i].params.length) _ ?_
     rotate_left
     ·exact ⟨0, o, n, L, _, _, _, rfl, rfl, Nat.zero_le _, Lib.hid (hr.out.app (freeQ i p.procs[i])), ha, Lib.hid (by rw [if_neg (by omega)]; simp only [zd0, List.append_nil]), by omega, app_get0 _ _, app_get1 _ _⟩
     rintro m σ ⟨j, o3, n3, L3, r3, nx3, lv3, hσ, rfl, hj, hr3, ha3, hL3, hl3, a0, a1⟩
     generalize slotOf σ = x at hσ
     subst hσ
     have hn33 : ∀ j, j < p.procs[i].params.length → ((if (p.procs[i].params.map dV).isEmpty = true then 0 else 3) = 3) = True := fun j h => eq_true (sl_n (j := j) (by simpa using h))
     simp only [QC, sl] at a1
     have a0s := fun l => snoc_get a0 l
     have a1s := fun l => snoc_get a1 l
     refine X_seq ?_
     refine X_rg fun R hR => ?_
     simp only [nat_lt, aops, astep, awant, aeff, aop, abin, aint, ev, St.put, zg1, zg0, zgd, zmo, if_true, zs1, zs0]
     with_reducible refine hR _ ?_
     clear hR R
     show X _ _ _ _
     refine X_seq ?_
     refine X_ite (by simp only [ev, zg1, zg0, zgd]; exact rfl) ?_ ?_
     ·intro b10
      have c10 := b10
      try simp only [decide_eq_true_eq] at c10
      refine X_skip ?_
      show X _ _ _ _
      refine X_seq ?_
      refine X_block ?_
      refine X_seq ?_
      have hlj : j < p.procs[i].params.length := by first | assumption | omega
      have hn1 := hn33 j hlj
      have e1 : (p.procs[i].params.map dV)[j]? = some (dV p.procs[i].params[j]) := by simp [hlj]
      refine X_rg fun R hR => ?_
      simp only [EVP, app_get0, app_set0, nat_lt, nat_0, nat_to, aops, astep, awant, aeff, aop, astore, ev, St.put, gd_agg, ia_agg, cl_agg, zg1, zg0, zgd, zmo, zbs, if_true, zs1, zs0, zlm, zlc, zln, zd1, zd0, zt0, zca, zna, Nat.reduceAdd, Nat.reduceLeDiff, Nat.zero_add, and_self, decide_true, zis, ty_api_VarDecl, und_api_VarDecl, siz_api_VarDecl, inf_api_VarDecl_eq, dV, c10, hn1, e1]
      with_reducible refine hR _ ?_
      clear hR R
      show X _ _ _ _
      have hfr := fresh_take p.procs[i].params j p.procs[i].params[j].name (by omega)
      have hle : ((j : Int) ≤ (p.procs[i].params.length : Int)) = True := by simp; omega
      obtain ⟨_, B4, nx4, lv4, hc4, rfl, o4, n4, hB4, ha4⟩ := report_cal (i : Int) (.slice .nil 0 []) [] p.procs[i].params[j].name (freshE (p.procs[i].params.take j) p.procs[i].params[j].name) 1 (Bc p o3 n3 L3 (r3 ++ [[.str p.procs[i].params[j].name, .int .u8 p.procs[i].params[j].kind, .int .i64 p.procs[i].params[j].len]])) nx3 lv3 o3 n3 L3 IsP.nil (by simp) (by omega) rfl ha3.out (unBc (hr3.out.app (freeV _)))
      simp only [Bc, dG_cells, zs1, zs0] at hc4 hB4
      subst hB4
      refine X_rd 11 (by kernel_rfl) fun R hR => ?_
      simp only [EVP, app_get0, nat_to, aops, astep, awant, aeff, aop, mkD, idx, aslice, ev, St.put, pcall, ia_int, ia_str, ia_slice, ia_fn, zmc, zmn, zg1, zg0, zgd, zmo, Option.map_none, if_true, zs1, zs0, zlm, zlc, zln, zd1, zd0, zt1, zt0, zca, zna, Nat.reduceAdd, Nat.reduceLeDiff, Nat.zero_add, Nat.add_zero, zft, if_false, and_self, reduceCtorEq, zis, ty_int, ty_string, ty_s_api_VarDecl, ty_api_VarDecl, ty_api_Proc, und_api_VarDecl, siz_api_VarDecl, inf_api_VarDecl_eq, ty_func_int__s_int__string__api_Errno_, any35, hfr, hle, nat_le, sl_or, Nat.sub_zero, Nat.zero_le, zd0, a0s, a1s]
      with_reducible refine hR _ ?_
      clear hR R
      refine Y_endC fun R hR => ?_
      simp only [EVP, aops, astep, awant, aeff, ev, ofValue, St.put, zmc, zmn, zg1, zg0, zgd, zmo, if_true, zs1, zs0, zd1, zd0, zca, zna, any33, hc4, any33, zd0]
      with_reducible refine hR _ ?_
      clear hR R
      show X _ _ _ _
      have hbj : j < 9223372036854775807 := by omega
      refine X_rg fun R hR => ?_
      simp only [inr_i64, Int.reduceLE, Int.reduceNeg, aops, astep, awant, aeff, aop, abin, aint, ev, ofValue, St.put, zg1, zg0, zgd, zmo, if_true, zs1, zs0, and_self, nat_succ hbj]
      with_reducible refine hR _ ?_
      clear hR R
      show ∃ m, m < _ ∧ _
      have hrl := rep_len (i : Int) [] (freshE (p.procs[i].params.take j) p.procs[i].params[j].name) p.procs[i].params[j].name
      exact ⟨p.procs[i].params.length - (j + 1), by omega, j + 1, o4, n4, _, _, nx4, lv4, rfl, rfl, by omega, Lib.hid (hr3.out.app (freeV _)), Lib.hid ha4, Lib.hid (by rw [← hL3.out, vrF_drop i false p.procs[i].params p.procs[i].params j hlj, zaa]; rfl), by rw [zla]; omega, snoc_get a0 _, snoc_get a1 _⟩
     ·intro b11
      have c11 := b11
      try simp only [decide_eq_false_iff_not] at c11
      refine X_exit ?_
      show X _ _ _ _
      have hrp := rep2 (i : Int) (Bc p o3 n3 L3 r3) 1 2 (r.length + 3) rfl (by simp [Bc, a0]) (by omega) (by omega) (by simp [Bc]) (unBc hr3.out)
      obtain ⟨_, B5, nx5, lv5, hc5, rfl, o5, n5, hB5, ha5⟩ := visit_cal (p := p) (by omega) hrp p.procs[i].body.size p.procs[i].body (Nat.le_refl _) (.slice .nil 0 []) [] p.procs[i].params (Bc p o3 n3 L3 r3) [] nx3 lv3 o3 n3 L3 IsP.nil (by simp; omega) (by omega) (by omega) BxBc ha3.out
      rw [BxBc' hB5] at hc5
      simp only [Bc, dG_cells, sl] at hc5
      refine X_rc fun R hR => ?_
      simp only [EVP, aops, astep, awant, aeff, aop, mkD, ev, ofValue, St.put, ia_slice, gd_ptr, ia_ptr, zmc, zmn, zg1, zg0, zgd, zmo, if_true, zs1, zs0, zlc, zln, zd1, zd0, zt1, zt0, zca, zna, Nat.reduceAdd, Nat.reduceLeDiff, Nat.zero_add, Bool.and_true, Bool.not_false, zft, if_false, and_self, reduceCtorEq, List.all_cons, List.all_nil, decide_false, Array.isEmpty_empty, ty_s_api_VarDecl, ty_api_Node, ty_api_Proc, ty_api_Program, any37, dN_agg, dG_agg, c11, a1, hc5]
      with_reducible refine hR _ ?_
      clear hR R
      show X _ _ _ _
      have hbig : i < 9223372036854775807 := by omega
      refine X_rg fun R hR => ?_
      simp only [inr_i64, Int.reduceLE, Int.reduceNeg, aops, astep, awant, aeff, aop, abin, aint, ev, ofValue, St.put, zg1, zg0, zgd, zmo, if_true, zs1, zs0, and_self, nat_succ hbig]
      with_reducible refine hR _ ?_
      clear hR R
      show ∃ m, m < _ ∧ _
      have hvl5 := visF_len p i p.procs[i].body [] p.procs[i].params
      exact ⟨p.procs.length - (i + 1), by omega, i + 1, o5, n5, _, r3, nx5, lv5, rfl, rfl, by omega, hr3, Lib.hid ha5, Lib.hid (by have h1 := hL3.out; rw [List.drop_of_length_le (by omega)] at h1; simp only [vrF, List.append_nil] at h1; rw [← hL.out, procsF_drop p p.procs i hlt, h1, procF]; simp only [zaa]), by rw [zla]; omega⟩
   ·intro b12
    have c12 := b12
    try simp only [decide_eq_false_iff_not] at c12
    refine X_exit ?_
    show X _ _ _ _
    refine X_seq ?_
    have hrp := rep3 p (Bc p o n L r) 1 2 0 rfl rfl (by omega) (by omega) (by simp [Bc]) (unBc hr.out)
    obtain ⟨_, B5, nx5, lv5, hc5, rfl, o5, n5, hB5, ha5⟩ := visit_cal (p := p) (by omega) hrp p.main.size p.main (Nat.le_refl _) (.slice .nil 0 []) [] p.vars (Bc p o n L r) [] nx lv o n L IsP.nil (by simp; omega) (by omega) (by omega) BxBc ha.out
    rw [BxBc' hB5] at hc5
    simp only [Bc, dG_cells, sl] at hc5
    refine X_rc fun R hR => ?_
    simp only [EVP, aops, astep, awant, aeff, aop, mkD, ev, ofValue, St.put, ia_slice, gd_ptr, ia_ptr, zmc, zmn, zg1, zg0, zgd, zmo, if_true, zs1, zs0, zlc, zln, zd1, zd0, zt1, zt0, zca, zna, Nat.reduceAdd, Nat.reduceLeDiff, Nat.zero_add, Nat.add_zero, Bool.and_true, Bool.not_false, zft, if_false, and_self, reduceCtorEq, List.all_cons, List.all_nil, decide_false, Array.isEmpty_empty, ty_s_api_VarDecl, ty_api_Node, ty_api_Program, any37, dN_agg, dG_agg, c12, hc5]
    with_reducible refine hR _ ?_
    clear hR R
    show X _ _ _ _
    refine X_seq ?_
    refine X_rg fun R hR => ?_
    simp only [EVP, aops, astep, awant, aeff, aop, mkD, ev, St.put, ia_slice, zg1, zg0, zgd, zmo, if_true, zs1, zs0, zlc, zln, zd0, zt1, zt0, Nat.reduceLeDiff, Nat.zero_add, zft, if_false, ty_s_scope_Fault]
    with_reducible refine hR _ ?_
    clear hR R
    show X _ _ _ _
    refine X_ret ?_
    show ∃ d, resD _ _ _ = some d ∧ _ ∧ _
    simp only [resD, resAll, resOne, resTup, Try.results15, EVP, zg1, zg0, D.good, if_true, zmo]
    have hT : L = vrF (-1) true p.vars p.vars 0 ++ procsF p p.procs 0 := by have h1 := hL.out; rw [List.drop_of_length_le (by omega)] at h1; simpa only [procsF, List.append_nil] using h1
    have hst := ha5.strip
    refine ⟨_, rfl, ?_, ?_⟩
    ·simp only [D.under, unders_id dFt_under]
    ·rw [hst, List.map_map, show (D.strip ∘ dFt) = dFt from funext dFt_strip]
     have hv : validB p = true := by first | assumption | simp_all
     rw [if_pos hv, hT, checkF, zaa]; rfl

end Go.Proofs.Ytmglacjcefajlaa
