/- effects.Calls: its contract. -/
import Derived.Test.YtkkhjpkkjpcbmaaGreatG1
import Derived.Test.YtkkhjpkkjpcbmaaGreatKc
import Derived.Test.YtkkhjpkkjpcbmaaGreatAmZ
namespace Go.Proofs.YtkkhjpkkjpcbmaaGreat
open Go.RowKit


def UnBg (B : List (List D)) : Prop := B.all (D.unders B.length) = true
theorem unBg_set {B : List (List D)} (h : UnBg B) (b : Nat) (A : List Int) : UnBg (B.set b (iD A)) := by
 unfold UnBg at h ⊢
 rw [List.all_eq_true] at h ⊢
 intro x hx
 rw [List.length_set]
 rcases List.mem_or_eq_of_mem_set hx with q | q
 ·exact h x q
 ·rw [q]; exact iD_under _ A
theorem unBg_app {B Y : List (List D)} (h : UnBg B) (hY : Free Y) : UnBg (B ++ Y) := by
 unfold UnBg at h ⊢
 rw [List.all_eq_true] at h ⊢
 intro x hx
 rcases List.mem_append.1 hx with q | q
 ·exact D.unders_le (by simp) x (h x q)
 ·exact hY x q _
/-- the boxes: the base, whose map in box b holds A, and boxes that point nowhere -/
def Bg (B0 : List (List D)) (b : Nat) (A : List Int) (Y B : List (List D)) : Prop := B = B0.set b (iD A) ++ Y ∧ Free Y
section
variable {B0 Y B : List (List D)} {b : Nat} {A : List Int}
theorem Bg.len (h : Bg B0 b A Y B) : B.length = B0.length + Y.length := by rw [h.1]; simp
theorem Bg.get (h : Bg B0 b A Y B) (j : Nat) : B[B0.length + j]? = Y[j]? := by
 rw [h.1, List.getElem?_append_right (by simp)]; congr 1; simp
theorem Bg.snoc (h : Bg B0 b A Y B) {X : List (List D)} (hX : Free X) : Bg B0 b A (Y ++ X) (B ++ X) := by
 refine ⟨by rw [h.1, zaa], fun c hc m => ?_⟩
 rcases List.mem_append.1 hc with q | q
 ·exact h.2 c q m
 ·exact hX c q m
theorem Bg.un (h : Bg B0 b A Y B) (h0 : UnBg B0) : UnBg B := by
 rw [h.1]; exact unBg_app (unBg_set h0 b A) h.2
theorem Bg.in0 (h : Bg B0 b A Y B) {j : Nat} {x : List D} (hj : B0[j]? = some x) (hne : j ≠ b) : B[j]? = some x := by
 obtain ⟨hl, _⟩ := List.getElem?_eq_some_iff.1 hj
 rw [h.1, List.getElem?_append_left (by simpa using hl), List.getElem?_set_ne (Ne.symm hne)]; exact hj
theorem Bg.inf (h : Bg B0 b A Y B) (hl : b < B0.length) : B[b]? = some (iD A) := by
 rw [h.1, List.getElem?_append_left (by simpa using hl), List.getElem?_set_self (by simpa using hl)]
theorem Bg.set (h : Bg B0 b A Y B) (hl : b < B0.length) (A' : List Int) : Bg B0 b A' Y (B.set b (iD A')) := by
 refine ⟨?_, h.2⟩
 rw [h.1, List.set_append_left _ _ (by simpa using hl), List.set_set]
theorem Bg.cut (h : Bg B0 b A Y B) : B.take B0.length = B0.set b (iD A) := by
 rw [h.1, List.take_append_of_le_length (by simp), List.take_of_length_le (by simp)]
theorem Bg.start (h : B0[b]? = some (iD A)) : Bg B0 b A [] B0 := by
 obtain ⟨hb, e⟩ := List.getElem?_eq_some_iff.1 h
 refine ⟨?_, fun c hc => by simp at hc⟩
 rw [← e, List.set_getElem_self hb, List.append_nil]
end
theorem und_mib : Tryz.prog.underlying 65 = some (.map 3 4) := by kernel_rfl
theorem ty_mib : tyOf Tryz.prog 65 = some { sz := 1, agg := false, flds := [], elem := none, zero := some [.nmap], bytes := 8 } := by kernel_rfl
theorem ty_fN : tyOf Tryz.prog 66 = some { sz := 1, agg := false, flds := [], elem := none, zero := some [.nfn], bytes := 8 } := by kernel_rfl
theorem und_int0 : Tryz.prog.underlying 3 = some (.int .i64) := by kernel_rfl
def addI (A : List Int) (s : Int) : List Int := if s ∈ A then A else A ++ [s]
theorem i_put (s : Int) (A : List Int) : mput (.int .i64) (.int .i64 s) (.bool true) (iD A) = some (iD (addI A s)) := by
 induction A with
 | nil => rfl
 | cons u l ih =>
  rw [iD_cons]
  by_cases h : s = u
  ·subst h
   simp only [mput, sameK, beq_self_eq_true, addI, List.mem_cons, true_or, if_true]
   rfl
  ·have hd : (s == u) = false := by simpa using h
   simp only [mput, sameK, if_true, hd, ih, zmo]
   have : addI (u :: l) s = u :: addI l s := by
    unfold addI
    by_cases hm : s ∈ l
    ·rw [if_pos hm, if_pos (List.mem_cons_of_mem _ hm)]
    ·rw [if_neg hm, if_neg (by simp [h, hm])]; rfl
   rw [this, iD_cons]
theorem addI_mem {A : List Int} {s x : Int} : x ∈ addI A s ↔ x ∈ A ∨ x = s := by
 unfold addI
 split
 ·rename_i h
  exact ⟨.inl, fun q => q.elim id (fun e => e ▸ h)⟩
 ·simp
theorem addI_len (A : List Int) (s : Int) : (addI A s).length ≤ A.length + 1 := by
 unfold addI; split <;> simp
theorem set_i (i : Nat) (A : List Int) (s : Int) (hl : A.length ≤ 1000000) (σ : St) (h : σ.bx[i]? = some (iD A)) : amset Tryz.prog σ 65 (.mref i) (.int .i64 s) (.bool true) = some { σ with bx := σ.bx.set i (iD (addI A s)) } := by
 have hl2 : (iD A).length ≤ 16777216 := by rw [iD_len]; omega
 unfold amset
 simp only [und_mib, und_int0, keyOk, h, i_put]
 rw [if_pos ⟨rfl, rfl, rfl⟩, if_pos hl2]; rfl
/-- a call is noted -/
def stepI (p : Pg) (A : List Int) (s : ByteArray) : List Int := if 0 ≤ idxN p.procs s 0 p.procs.length then addI A (idxN p.procs s 0 p.procs.length) else A
def visI (p : Pg) (A : List Int) (l : List ByteArray) : List Int := l.foldl (stepI p) A
theorem stepI_len (p : Pg) (A : List Int) (s : ByteArray) : (stepI p A s).length ≤ A.length + 1 := by
 unfold stepI; split
 ·exact addI_len _ _
 ·omega
theorem visI_len (p : Pg) : ∀ (l : List ByteArray) (A : List Int), (visI p A l).length ≤ A.length + l.length
 | [], A => by simp [visI]
 | s :: r, A => by
  have h1 := visI_len p r (stepI p A s)
  have h2 := stepI_len p A s
  simp only [visI, List.foldl_cons, zlc] at h1 ⊢
  omega
theorem visI_app (p : Pg) (A : List Int) (l m : List ByteArray) : visI p A (l ++ m) = visI p (visI p A l) m := by simp only [visI, List.foldl_append]
set_option maxRecDepth 100000 in
set_option maxHeartbeats 4000000 in
theorem gvisit_cal {p : Pg} (hp : p.procs.length ≤ 1000000) : ∀ (N : Nat) (t : Tr), t.size ≤ N → ∀ (B : List (List D)) (nx : Nat) (lv : List Nat) (A : List Int), B[0]? = some [.slice .imm (if (p.vars.map dV).isEmpty = true then 0 else 3) (p.vars.map dV), .slice .imm (if (p.procs.map dP).isEmpty = true then 0 else 6) (p.procs.map dP), .int .u8 p.main.kind, .int .i64 p.main.num, .str p.main.name, .slice .imm (if (p.main.kids.map dN).isEmpty = true then 0 else 4) (p.main.kids.map dN)] → B[2]? = some (iD A) → B[3]? = some [.mref 2] → B[4]? = some [.fn 29 [.ptr 0 0, .ptr 3 0, .ptr 4 0]] → UnBg B → A.length + t.size ≤ 1000000 →
  ∃ d B' nx' lv', (∀ fr, cal EV 29 [dN t, .ptr 0 0, .ptr 3 0, .ptr 4 0] ⟨fr, B, nx, lv⟩ = some (d, ⟨fr, B', nx', lv'⟩)) ∧ d = .tup [] ∧ B' = B.set 2 (iD (visI p A (cnT t))) := by
 intro N
 induction N with
 | zero => intro t h; cases t; simp only [Tr.size] at h; omega
 | succ N IH =>
 intro t hN B nx lv A h0 h2 h3 h4 hu hAl
 have ih := fun (c : Tr) (hc : c.size < t.size) => IH c (by omega)
 clear IH
 refine cal_XE (Φ := fun d B' _ _ => d = .tup [] ∧ B' = B.set 2 (iD (visI p A (cnT t)))) rfl Tryz.func29 rfl (by simp [plain, D.under]) ?_
 simp only [enterSt, Tryz.ntmps29, zlc, zln, Nat.reduceAdd, Nat.reduceSub, zr1, zr0, zca, zna]
 refine X_seq ?_
 refine X_rg fun R hR => ?_
 simp only [aops, astep, awant, aeff, ev, St.put, zg0, zgd, zmo, if_true, zs1, zs0, dN_cells, dN_good, sl]
 with_reducible refine hR _ ?_
 clear hR R
 show X _ _ _ _
 refine X_seq ?_
 refine X_seq ?_
 have g1 : (B ++ [([.int .u8 t.kind, .int .i64 t.num, .str t.name, .slice .imm (if (t.kids.map dN).isEmpty = true then 0 else 4) (t.kids.map dN)] : List D)])[B.length]? = some [.int .u8 t.kind, .int .i64 t.num, .str t.name, .slice .imm (if (t.kids.map dN).isEmpty = true then 0 else 4) (t.kids.map dN)] := by simp
 refine X_y ?_
 refine Y_k 4 fun R hR => ?_
 simp only [EVP, inr_u8, Int.reduceLE, aops, astep, awant, aeff, aop, abin, aint, mkD, ev, ofValue, St.put, ia_int, zg1, zg0, zgd, zmo, if_true, zs1, zs0, zlc, zln, zd0, zt1, zt0, Nat.reduceAdd, Nat.reduceLeDiff, Nat.zero_add, Nat.add_zero, zft, if_false, and_self, reduceCtorEq, ty_uint8, ty_api_Node, g1]
 with_reducible refine hR _ ?_
 clear hR R
 simp only [zd1, zd0]
 refine Y_if 11 (by simp only [ev, zg1, zg0, zgd]; exact rfl) ?_ ?_
 ·intro b1
  have c1 := b1
  try simp only [beq_iff_eq] at c1
  refine Y_end fun R hR => ?_
  simp only [EVP, inr_u8, Int.reduceLE, aops, astep, awant, aeff, aop, abin, ev, ofValue, St.put, zg1, zg0, zgd, zmo, Option.map_none, zbs, if_true, zs1, zs0, Nat.add_zero, zft, if_false, and_self, reduceCtorEq, bq_tf, ty_uint8, ty_api_Node, b1]
  with_reducible refine hR _ ?_
  clear hR R
  show X _ _ _ _
  refine X_true (by simp only [ev, zg1, zg0, zgd]) ?_
  refine X_seq ?_
  have hP := proc_fn p t.name (by omega)
  have g0 := snoc_get h0 [[.int .u8 t.kind, .int .i64 t.num, .str t.name, .slice .imm (if (t.kids.map dN).isEmpty = true then 0 else 4) (t.kids.map dN)]]
  refine X_rg fun R hR => ?_
  simp only [EVP, aops, astep, awant, aeff, aop, mkD, ev, St.put, pcall, ia_str, zmc, zmn, zg1, zg0, zgd, zmo, if_true, zs1, zs0, zlc, zln, zd1, zd0, zt1, zt0, zca, zna, Nat.reduceAdd, Nat.reduceLeDiff, Nat.zero_add, zft, if_false, reduceCtorEq, ty_string, ty_api_Node, ty_api_Program, any11, dG_agg, g0, g1, hP]
  with_reducible refine hR _ ?_
  clear hR R
  show X _ _ _ _
  refine X_seq ?_
  refine X_rg fun R hR => ?_
  simp only [inr_i64, Int.reduceLE, Int.reduceNeg, aops, astep, awant, aeff, aop, abin, aint, ev, ofValue, St.put, zg1, zg0, zgd, zmo, if_true, zs1, zs0, and_self]
  with_reducible refine hR _ ?_
  clear hR R
  show X _ _ _ _
  refine X_ite (by simp only [ev, zg1, zg0, zgd]; exact rfl) ?_ ?_
  ·intro b2
   have c2 := b2
   try simp only [decide_eq_true_eq, ge_iff_le] at c2
   have g3 := snoc_get h3 [[.int .u8 t.kind, .int .i64 t.num, .str t.name, .slice .imm (if (t.kids.map dN).isEmpty = true then 0 else 4) (t.kids.map dN)]]
   have g2 := snoc_get h2 [[.int .u8 t.kind, .int .i64 t.num, .str t.name, .slice .imm (if (t.kids.map dN).isEmpty = true then 0 else 4) (t.kids.map dN)]]
   have hsm := fun fr => set_i 2 A (idxN p.procs t.name 0 p.procs.length) (by omega) ⟨fr, B ++ [[.int .u8 t.kind, .int .i64 t.num, .str t.name, .slice .imm (if (t.kids.map dN).isEmpty = true then 0 else 4) (t.kids.map dN)]], nx, lv⟩ g2
   refine X_rg fun R hR => ?_
   simp only [EVP, aops, astep, awant, aeff, aop, mkD, ev, ofValue, St.put, ia_mref, zg1, zg0, zgd, zmo, if_true, zs1, zs0, zlc, zln, zd0, zt1, zt0, Nat.reduceLeDiff, Nat.zero_add, zft, if_false, b2, g3, hsm, ty_mib]
   with_reducible refine hR _ ?_
   clear hR R
   show X _ _ _ _
   refine X_seq ?_
   have g1b : ((B ++ [([.int .u8 t.kind, .int .i64 t.num, .str t.name, .slice .imm (if (t.kids.map dN).isEmpty = true then 0 else 4) (t.kids.map dN)] : List D)]).set 2 (iD (addI A (idxN p.procs t.name 0 p.procs.length))))[B.length]? = some [.int .u8 t.kind, .int .i64 t.num, .str t.name, .slice .imm (if (t.kids.map dN).isEmpty = true then 0 else 4) (t.kids.map dN)] := by rw [List.getElem?_set_ne (by have := (List.getElem?_eq_some_iff.1 h4).1; omega)]; exact g1
   refine X_rg fun R hR => ?_
   simp only [EVP, inr_i64, Int.reduceLE, Int.reduceNeg, aops, astep, awant, aeff, aop, mkD, ev, ofValue, St.put, ia_slice, zg1, zg0, zgd, zmo, if_true, zs1, zs0, zlm, zlc, zln, zd1, zd0, zt1, zt0, Nat.reduceAdd, Nat.reduceLeDiff, Nat.zero_add, zft, if_false, and_self, reduceCtorEq, ty_s_api_Node, ty_api_Node, und_api_Node, g1b]
   with_reducible refine hR _ ?_
   clear hR R
   show X _ _ _ _
   refine X_block ?_
   refine X_loop (fun m σ => ∃ (i : Nat) (A2 : List Int) (Z : List (List D)) (B2 : List (List D)) (nx2 : Nat) (lv2 : List Nat), σ = ⟨[slotOf σ 0, .ptr 0 0, .ptr 3 0, .ptr 4 0, .ptr B.length 0, slotOf σ 5, slotOf σ 6, slotOf σ 7, slotOf σ 8, slotOf σ 9, slotOf σ 10, slotOf σ 11, slotOf σ 12, slotOf σ 13, slotOf σ 14, slotOf σ 15, slotOf σ 16, slotOf σ 17, slotOf σ 18, slotOf σ 19, slotOf σ 20, slotOf σ 21, slotOf σ 22, slotOf σ 23, slotOf σ 24, .slice .imm (if (t.kids.map dN).isEmpty = true then 0 else 4) (t.kids.map dN), .int .i64 t.kids.length, .int .i64 i, slotOf σ 28, slotOf σ 29, slotOf σ 30, slotOf σ 31, slotOf σ 32, slotOf σ 33, slotOf σ 34], B2, nx2, lv2⟩ ∧ m = t.kids.length - i ∧ i ≤ t.kids.length ∧ Hid (Bg B 2 A2 ([.int .u8 t.kind, .int .i64 t.num, .str t.name, .slice .imm (if (t.kids.map dN).isEmpty = true then 0 else 4) (t.kids.map dN)] :: Z) B2) ∧ Hid (visI p A2 (cnL (t.kids.drop i)) = visI p A (cnT t)) ∧ A2.length + Tr.sizes (t.kids.drop i) ≤ A.length + t.size) ?_ (t.kids.length) _ ?_
   rotate_left
   ·have hc : (t.kind = 50 ∨ t.kind = 51) = True := by first | (simp []; done) | (simp_all; done)
    have hl5 : 4 < B.length := (List.getElem?_eq_some_iff.1 h4).1
    have hf1 : Free [[.int .u8 t.kind, .int .i64 t.num, .str t.name, .slice .imm (if (t.kids.map dN).isEmpty = true then 0 else 4) (t.kids.map dN)]] := by have := free1 t; rwa [dN_cells] at this
    have hst : stepI p A t.name = addI A (idxN p.procs t.name 0 p.procs.length) := by unfold stepI; rw [if_pos (by first | assumption | (simp_all; done))]
    exact ⟨0, addI A (idxN p.procs t.name 0 p.procs.length), [], _, _, _, rfl, rfl, Nat.zero_le _, Lib.hid ((((Bg.start h2).snoc hf1).set (by omega) _)), Lib.hid (by rw [cnT_eq, if_pos (of_eq_true hc), List.singleton_append]; show _ = visI p (stepI p A t.name) (cnL t.kids); rw [hst]; rfl), by have := addI_len A (idxN p.procs t.name 0 p.procs.length); rw [zd0, sizes_kids t]; omega⟩
   rintro m σ ⟨i, A2, Z, B2, nx2, lv2, hσ, rfl, hi, hB2, hA2, hL2⟩
   generalize slotOf σ = x at hσ
   subst hσ
   have hl5 : 4 < B.length := (List.getElem?_eq_some_iff.1 h4).1
   have g1 : B2[B.length]? = some [.int .u8 t.kind, .int .i64 t.num, .str t.name, .slice .imm (if (t.kids.map dN).isEmpty = true then 0 else 4) (t.kids.map dN)] := by have := hB2.out.get 0; simpa using this
   have g2 := hB2.out.inf (by omega)
   have g4 := hB2.out.in0 h4 (by omega)
   have g1s := fun l => snoc_get g1 l
   have g4s := fun l => snoc_get g4 l
   refine X_seq ?_
   refine X_rg fun R hR => ?_
   simp only [nat_lt, aops, astep, awant, aeff, aop, abin, aint, ev, St.put, zg1, zg0, zgd, zmo, if_true, zs1, zs0]
   with_reducible refine hR _ ?_
   clear hR R
   show X _ _ _ _
   refine X_seq ?_
   refine X_ite (by simp only [ev, zg1, zg0, zgd]; exact rfl) ?_ ?_
   ·intro b3
    have c3 := b3
    try simp only [decide_eq_true_eq] at c3
    refine X_skip ?_
    show X _ _ _ _
    refine X_seq ?_
    refine X_block ?_
    refine X_seq ?_
    have hlt : i < t.kids.length := by first | assumption | omega | simp_all
    have hn1 := idx_n (f := dN) (n := 4) hlt
    have e1 : (t.kids.map dN)[i]? = some (dN t.kids[i]) := by simp [hlt]
    refine X_rg fun R hR => ?_
    simp only [EVP, app_get0, app_set0, nat_lt, nat_0, nat_to, aops, astep, awant, aeff, aop, astore, ev, St.put, zg1, zg0, zgd, zmo, zbs, if_true, zs1, zs0, zlm, zlc, zln, zd1, zd0, zt0, zca, zna, Nat.reduceAdd, Nat.reduceLeDiff, Nat.zero_add, and_self, decide_true, zis, ty_api_Node, und_api_Node, siz_api_Node, inf_api_Node_eq, dN_cells, dN_isAgg, dN_good, sl, hlt, hn1, e1]
    with_reducible refine hR _ ?_
    clear hR R
    show X _ _ _ _
    have hsk : t.kids[i].size < t.size := by have h1 := sizes_kids t; have h2 := Tr.size_le_of_mem (List.getElem_mem hlt); omega
    have hsd := sizes_drop t.kids i hlt
    have hfk : Free [[.int .u8 t.kids[i].kind, .int .i64 t.kids[i].num, .str t.kids[i].name, .slice .imm (if (t.kids[i].kids.map dN).isEmpty = true then 0 else 4) (t.kids[i].kids.map dN)]] := by have := free1 t.kids[i]; rwa [dN_cells] at this
    have hB9 := hB2.out.snoc hfk
    have hun := hB9.un hu
    obtain ⟨_, B3, nx3, lv3, hc3, rfl, hB3⟩ := ih t.kids[i] hsk (B2 ++ [[.int .u8 t.kids[i].kind, .int .i64 t.kids[i].num, .str t.kids[i].name, .slice .imm (if (t.kids[i].kids.map dN).isEmpty = true then 0 else 4) (t.kids[i].kids.map dN)]]) nx2 lv2 A2 (hB9.in0 h0 (by omega)) (hB9.inf (by omega)) (hB9.in0 h3 (by omega)) (hB9.in0 h4 (by omega)) hun (by omega)
    have hB4 := hB9.set (by omega) (visI p A2 (cnT t.kids[i]))
    rw [← hB3] at hB4
    have g9 : (B2 ++ [([.int .u8 t.kids[i].kind, .int .i64 t.kids[i].num, .str t.kids[i].name, .slice .imm (if (t.kids[i].kids.map dN).isEmpty = true then 0 else 4) (t.kids[i].kids.map dN)] : List D)])[B2.length]? = some [.int .u8 t.kids[i].kind, .int .i64 t.kids[i].num, .str t.kids[i].name, .slice .imm (if (t.kids[i].kids.map dN).isEmpty = true then 0 else 4) (t.kids[i].kids.map dN)] := by simp
    refine X_rc fun R hR => ?_
    simp only [EVP, aops, astep, awant, aeff, aop, mkD, ev, St.put, ia_fn, zmc, zmn, zg1, zg0, zgd, zmo, if_true, zs1, zs0, zlc, zln, zd0, zt1, zt0, zca, zna, Nat.reduceAdd, Nat.reduceLeDiff, Nat.zero_add, zft, if_false, ty_api_Node, dN_agg, g4s, g9, hc3, ty_fN, any29]
    with_reducible refine hR _ ?_
    clear hR R
    show X _ _ _ _
    have hbig : i < 9223372036854775807 := by have h1 := Tr.length_le_sizes t.kids; have h2 := sizes_kids t; omega
    refine X_rg fun R hR => ?_
    simp only [inr_i64, Int.reduceLE, Int.reduceNeg, aops, astep, awant, aeff, aop, abin, aint, ev, ofValue, St.put, zg1, zg0, zgd, zmo, if_true, zs1, zs0, and_self, nat_succ hbig]
    with_reducible refine hR _ ?_
    clear hR R
    show ∃ m, m < _ ∧ _
    have hvl := visI_len p (cnT t.kids[i]) A2
    have hcl := cnT_len t.kids[i]
    exact ⟨t.kids.length - (i + 1), by omega, i + 1, visI p A2 (cnT t.kids[i]), _, B3, nx3, lv3, rfl, rfl, by omega, Lib.hid hB4, Lib.hid (by rw [← hA2.out, cnL_step hlt, visI_app]), by omega⟩
   ·intro b4
    have c4 := b4
    try simp only [decide_eq_false_iff_not] at c4
    refine X_exit ?_
    have hT : A2 = visI p A (cnT t) := by rw [← hA2.out, List.drop_of_length_le (by first | omega | (simp_all; omega))]; rfl
    subst hT
    refine ⟨.inl rfl, .tup [], rfl, rfl, ?_, ?_, rfl, hB2.out.cut⟩
    ·show B.length ≤ B2.length; rw [hB2.out.len]; omega
    ·rw [hB2.out.cut]; have := unBg_set hu 2 (visI p A (cnT t)); unfold UnBg at this; rwa [List.length_set] at this
  ·intro b5
   have c5 := b5
   try simp only [decide_eq_false_iff_not, Int.not_le, ge_iff_le] at c5
   refine X_skip ?_
   show X _ _ _ _
   refine X_seq ?_
   have g1b : ((B ++ [([.int .u8 t.kind, .int .i64 t.num, .str t.name, .slice .imm (if (t.kids.map dN).isEmpty = true then 0 else 4) (t.kids.map dN)] : List D)]).set 2 (iD (addI A (idxN p.procs t.name 0 p.procs.length))))[B.length]? = some [.int .u8 t.kind, .int .i64 t.num, .str t.name, .slice .imm (if (t.kids.map dN).isEmpty = true then 0 else 4) (t.kids.map dN)] := by rw [List.getElem?_set_ne (by have := (List.getElem?_eq_some_iff.1 h4).1; omega)]; exact g1
   refine X_rg fun R hR => ?_
   simp only [EVP, inr_i64, Int.reduceLE, Int.reduceNeg, aops, astep, awant, aeff, aop, mkD, ev, ofValue, St.put, ia_slice, zg1, zg0, zgd, zmo, if_true, zs1, zs0, zlm, zlc, zln, zd1, zd0, zt1, zt0, Nat.reduceAdd, Nat.reduceLeDiff, Nat.zero_add, zft, if_false, and_self, reduceCtorEq, ty_s_api_Node, ty_api_Node, und_api_Node, b5, g1]
   with_reducible refine hR _ ?_
   clear hR R
   show X _ _ _ _
   refine X_block ?_
   refine X_loop (fun m σ => ∃ (i : Nat) (A2 : List Int) (Z : List (List D)) (B2 : List (List D)) (nx2 : Nat) (lv2 : List Nat), σ = ⟨[slotOf σ 0, .ptr 0 0, .ptr 3 0, .ptr 4 0, .ptr B.length 0, slotOf σ 5, slotOf σ 6, slotOf σ 7, slotOf σ 8, slotOf σ 9, slotOf σ 10, slotOf σ 11, slotOf σ 12, slotOf σ 13, slotOf σ 14, slotOf σ 15, slotOf σ 16, slotOf σ 17, slotOf σ 18, slotOf σ 19, slotOf σ 20, slotOf σ 21, slotOf σ 22, slotOf σ 23, slotOf σ 24, .slice .imm (if (t.kids.map dN).isEmpty = true then 0 else 4) (t.kids.map dN), .int .i64 t.kids.length, .int .i64 i, slotOf σ 28, slotOf σ 29, slotOf σ 30, slotOf σ 31, slotOf σ 32, slotOf σ 33, slotOf σ 34], B2, nx2, lv2⟩ ∧ m = t.kids.length - i ∧ i ≤ t.kids.length ∧ Hid (Bg B 2 A2 ([.int .u8 t.kind, .int .i64 t.num, .str t.name, .slice .imm (if (t.kids.map dN).isEmpty = true then 0 else 4) (t.kids.map dN)] :: Z) B2) ∧ Hid (visI p A2 (cnL (t.kids.drop i)) = visI p A (cnT t)) ∧ A2.length + Tr.sizes (t.kids.drop i) ≤ A.length + t.size) ?_ (t.kids.length) _ ?_
   rotate_left
   ·have hc : (t.kind = 50 ∨ t.kind = 51) = True := by first | (simp []; done) | (simp_all; done)
    have hl5 : 4 < B.length := (List.getElem?_eq_some_iff.1 h4).1
    have hf1 : Free [[.int .u8 t.kind, .int .i64 t.num, .str t.name, .slice .imm (if (t.kids.map dN).isEmpty = true then 0 else 4) (t.kids.map dN)]] := by have := free1 t; rwa [dN_cells] at this
    have hst : stepI p A t.name = A := by unfold stepI; rw [if_neg (by first | assumption | (simp_all; done))]
    exact ⟨0, A, [], _, _, _, rfl, rfl, Nat.zero_le _, Lib.hid ((Bg.start h2).snoc hf1), Lib.hid (by rw [cnT_eq, if_pos (of_eq_true hc), List.singleton_append]; show _ = visI p (stepI p A t.name) (cnL t.kids); rw [hst]; rfl), by have := addI_len A (idxN p.procs t.name 0 p.procs.length); rw [zd0, sizes_kids t]; omega⟩
   rintro m σ ⟨i, A2, Z, B2, nx2, lv2, hσ, rfl, hi, hB2, hA2, hL2⟩
   generalize slotOf σ = x at hσ
   subst hσ
   have hl5 : 4 < B.length := (List.getElem?_eq_some_iff.1 h4).1
   have g1 : B2[B.length]? = some [.int .u8 t.kind, .int .i64 t.num, .str t.name, .slice .imm (if (t.kids.map dN).isEmpty = true then 0 else 4) (t.kids.map dN)] := by have := hB2.out.get 0; simpa using this
   have g2 := hB2.out.inf (by omega)
   have g4 := hB2.out.in0 h4 (by omega)
   have g1s := fun l => snoc_get g1 l
   have g4s := fun l => snoc_get g4 l
   refine X_seq ?_
   refine X_rg fun R hR => ?_
   simp only [nat_lt, aops, astep, awant, aeff, aop, abin, aint, ev, St.put, zg1, zg0, zgd, zmo, if_true, zs1, zs0]
   with_reducible refine hR _ ?_
   clear hR R
   show X _ _ _ _
   refine X_seq ?_
   refine X_ite (by simp only [ev, zg1, zg0, zgd]; exact rfl) ?_ ?_
   ·intro b6
    have c6 := b6
    try simp only [decide_eq_true_eq] at c6
    refine X_skip ?_
    show X _ _ _ _
    refine X_seq ?_
    refine X_block ?_
    refine X_seq ?_
    have hlt : i < t.kids.length := by first | assumption | omega | simp_all
    have hn1 := idx_n (f := dN) (n := 4) hlt
    have e1 : (t.kids.map dN)[i]? = some (dN t.kids[i]) := by simp [hlt]
    refine X_rg fun R hR => ?_
    simp only [EVP, app_get0, app_set0, nat_lt, nat_0, nat_to, aops, astep, awant, aeff, aop, astore, ev, St.put, zg1, zg0, zgd, zmo, zbs, if_true, zs1, zs0, zlm, zlc, zln, zd1, zd0, zt0, zca, zna, Nat.reduceAdd, Nat.reduceLeDiff, Nat.zero_add, and_self, decide_true, zis, ty_api_Node, und_api_Node, siz_api_Node, inf_api_Node_eq, dN_cells, dN_isAgg, dN_good, sl, hlt, hn1, e1]
    with_reducible refine hR _ ?_
    clear hR R
    show X _ _ _ _
    have hsk : t.kids[i].size < t.size := by have h1 := sizes_kids t; have h2 := Tr.size_le_of_mem (List.getElem_mem hlt); omega
    have hsd := sizes_drop t.kids i hlt
    have hfk : Free [[.int .u8 t.kids[i].kind, .int .i64 t.kids[i].num, .str t.kids[i].name, .slice .imm (if (t.kids[i].kids.map dN).isEmpty = true then 0 else 4) (t.kids[i].kids.map dN)]] := by have := free1 t.kids[i]; rwa [dN_cells] at this
    have hB9 := hB2.out.snoc hfk
    have hun := hB9.un hu
    obtain ⟨_, B3, nx3, lv3, hc3, rfl, hB3⟩ := ih t.kids[i] hsk (B2 ++ [[.int .u8 t.kids[i].kind, .int .i64 t.kids[i].num, .str t.kids[i].name, .slice .imm (if (t.kids[i].kids.map dN).isEmpty = true then 0 else 4) (t.kids[i].kids.map dN)]]) nx2 lv2 A2 (hB9.in0 h0 (by omega)) (hB9.inf (by omega)) (hB9.in0 h3 (by omega)) (hB9.in0 h4 (by omega)) hun (by omega)
    have hB4 := hB9.set (by omega) (visI p A2 (cnT t.kids[i]))
    rw [← hB3] at hB4
    have g9 : (B2 ++ [([.int .u8 t.kids[i].kind, .int .i64 t.kids[i].num, .str t.kids[i].name, .slice .imm (if (t.kids[i].kids.map dN).isEmpty = true then 0 else 4) (t.kids[i].kids.map dN)] : List D)])[B2.length]? = some [.int .u8 t.kids[i].kind, .int .i64 t.kids[i].num, .str t.kids[i].name, .slice .imm (if (t.kids[i].kids.map dN).isEmpty = true then 0 else 4) (t.kids[i].kids.map dN)] := by simp
    refine X_rc fun R hR => ?_
    simp only [EVP, aops, astep, awant, aeff, aop, mkD, ev, St.put, ia_fn, zmc, zmn, zg1, zg0, zgd, zmo, if_true, zs1, zs0, zlc, zln, zd0, zt1, zt0, zca, zna, Nat.reduceAdd, Nat.reduceLeDiff, Nat.zero_add, zft, if_false, ty_api_Node, dN_agg, g4s, g9, hc3, ty_fN, any29]
    with_reducible refine hR _ ?_
    clear hR R
    show X _ _ _ _
    have hbig : i < 9223372036854775807 := by have h1 := Tr.length_le_sizes t.kids; have h2 := sizes_kids t; omega
    refine X_rg fun R hR => ?_
    simp only [inr_i64, Int.reduceLE, Int.reduceNeg, aops, astep, awant, aeff, aop, abin, aint, ev, ofValue, St.put, zg1, zg0, zgd, zmo, if_true, zs1, zs0, and_self, nat_succ hbig]
    with_reducible refine hR _ ?_
    clear hR R
    show ∃ m, m < _ ∧ _
    have hvl := visI_len p (cnT t.kids[i]) A2
    have hcl := cnT_len t.kids[i]
    exact ⟨t.kids.length - (i + 1), by omega, i + 1, visI p A2 (cnT t.kids[i]), _, B3, nx3, lv3, rfl, rfl, by omega, Lib.hid hB4, Lib.hid (by rw [← hA2.out, cnL_step hlt, visI_app]), by omega⟩
   ·intro b7
    have c7 := b7
    try simp only [decide_eq_false_iff_not] at c7
    refine X_exit ?_
    have hT : A2 = visI p A (cnT t) := by rw [← hA2.out, List.drop_of_length_le (by first | omega | (simp_all; omega))]; rfl
    subst hT
    refine ⟨.inl rfl, .tup [], rfl, rfl, ?_, ?_, rfl, hB2.out.cut⟩
    ·show B.length ≤ B2.length; rw [hB2.out.len]; omega
    ·rw [hB2.out.cut]; have := unBg_set hu 2 (visI p A (cnT t)); unfold UnBg at this; rwa [List.length_set] at this
 ·intro b8
  have c8 := b8
  try simp only [ne_eq, beq_eq_false_iff_ne] at c8
  refine Y_end fun R hR => ?_
  simp only [EVP, inr_u8, Int.reduceLE, aops, astep, awant, aeff, aop, abin, aint, mkD, ev, ofValue, St.put, ia_int, zg1, zg0, zgd, zmo, zbs, if_true, zs1, zs0, zlc, zln, zd0, zt1, zt0, Nat.reduceAdd, Nat.reduceLeDiff, Nat.zero_add, Nat.add_zero, zft, if_false, and_self, reduceCtorEq, beq_self_eq_true, ty_uint8, ty_api_Node, b8, g1]
  with_reducible refine hR _ ?_
  clear hR R
  show X _ _ _ _
  refine X_ite (by simp only [ev, zg1, zg0, zgd]; exact rfl) ?_ ?_
  ·intro b9
   have c9 := b9
   try simp only [beq_iff_eq] at c9
   refine X_seq ?_
   have hP := proc_fn p t.name (by omega)
   have g0 := snoc_get h0 [[.int .u8 t.kind, .int .i64 t.num, .str t.name, .slice .imm (if (t.kids.map dN).isEmpty = true then 0 else 4) (t.kids.map dN)]]
   refine X_rg fun R hR => ?_
   simp only [EVP, aops, astep, awant, aeff, aop, mkD, ev, St.put, pcall, ia_str, zmc, zmn, zg1, zg0, zgd, zmo, if_true, zs1, zs0, zlc, zln, zd1, zd0, zt1, zt0, zca, zna, Nat.reduceAdd, Nat.reduceLeDiff, Nat.zero_add, zft, if_false, reduceCtorEq, ty_string, ty_api_Node, ty_api_Program, any11, dG_agg, b9, g0, g1, hP]
   with_reducible refine hR _ ?_
   clear hR R
   show X _ _ _ _
   refine X_seq ?_
   refine X_rg fun R hR => ?_
   simp only [inr_i64, Int.reduceLE, Int.reduceNeg, aops, astep, awant, aeff, aop, abin, aint, ev, ofValue, St.put, zg1, zg0, zgd, zmo, if_true, zs1, zs0, and_self]
   with_reducible refine hR _ ?_
   clear hR R
   show X _ _ _ _
   refine X_ite (by simp only [ev, zg1, zg0, zgd]; exact rfl) ?_ ?_
   ·intro b10
    have c10 := b10
    try simp only [decide_eq_true_eq, ge_iff_le] at c10
    have g3 := snoc_get h3 [[.int .u8 t.kind, .int .i64 t.num, .str t.name, .slice .imm (if (t.kids.map dN).isEmpty = true then 0 else 4) (t.kids.map dN)]]
    have g2 := snoc_get h2 [[.int .u8 t.kind, .int .i64 t.num, .str t.name, .slice .imm (if (t.kids.map dN).isEmpty = true then 0 else 4) (t.kids.map dN)]]
    have hsm := fun fr => set_i 2 A (idxN p.procs t.name 0 p.procs.length) (by omega) ⟨fr, B ++ [[.int .u8 t.kind, .int .i64 t.num, .str t.name, .slice .imm (if (t.kids.map dN).isEmpty = true then 0 else 4) (t.kids.map dN)]], nx, lv⟩ g2
    refine X_rg fun R hR => ?_
    simp only [EVP, aops, astep, awant, aeff, aop, mkD, ev, ofValue, St.put, ia_mref, zg1, zg0, zgd, zmo, if_true, zs1, zs0, zlc, zln, zd0, zt1, zt0, Nat.reduceLeDiff, Nat.zero_add, zft, if_false, b10, g3, hsm, ty_mib]
    with_reducible refine hR _ ?_
    clear hR R
    show X _ _ _ _
    refine X_seq ?_
    have g1b : ((B ++ [([.int .u8 t.kind, .int .i64 t.num, .str t.name, .slice .imm (if (t.kids.map dN).isEmpty = true then 0 else 4) (t.kids.map dN)] : List D)]).set 2 (iD (addI A (idxN p.procs t.name 0 p.procs.length))))[B.length]? = some [.int .u8 t.kind, .int .i64 t.num, .str t.name, .slice .imm (if (t.kids.map dN).isEmpty = true then 0 else 4) (t.kids.map dN)] := by rw [List.getElem?_set_ne (by have := (List.getElem?_eq_some_iff.1 h4).1; omega)]; exact g1
    refine X_rg fun R hR => ?_
    simp only [EVP, inr_i64, Int.reduceLE, Int.reduceNeg, aops, astep, awant, aeff, aop, mkD, ev, ofValue, St.put, ia_slice, zg1, zg0, zgd, zmo, if_true, zs1, zs0, zlm, zlc, zln, zd1, zd0, zt1, zt0, Nat.reduceAdd, Nat.reduceLeDiff, Nat.zero_add, zft, if_false, and_self, reduceCtorEq, ty_s_api_Node, ty_api_Node, und_api_Node, g1b]
    with_reducible refine hR _ ?_
    clear hR R
    show X _ _ _ _
    refine X_block ?_
    refine X_loop (fun m σ => ∃ (i : Nat) (A2 : List Int) (Z : List (List D)) (B2 : List (List D)) (nx2 : Nat) (lv2 : List Nat), σ = ⟨[slotOf σ 0, .ptr 0 0, .ptr 3 0, .ptr 4 0, .ptr B.length 0, slotOf σ 5, slotOf σ 6, slotOf σ 7, slotOf σ 8, slotOf σ 9, slotOf σ 10, slotOf σ 11, slotOf σ 12, slotOf σ 13, slotOf σ 14, slotOf σ 15, slotOf σ 16, slotOf σ 17, slotOf σ 18, slotOf σ 19, slotOf σ 20, slotOf σ 21, slotOf σ 22, slotOf σ 23, slotOf σ 24, .slice .imm (if (t.kids.map dN).isEmpty = true then 0 else 4) (t.kids.map dN), .int .i64 t.kids.length, .int .i64 i, slotOf σ 28, slotOf σ 29, slotOf σ 30, slotOf σ 31, slotOf σ 32, slotOf σ 33, slotOf σ 34], B2, nx2, lv2⟩ ∧ m = t.kids.length - i ∧ i ≤ t.kids.length ∧ Hid (Bg B 2 A2 ([.int .u8 t.kind, .int .i64 t.num, .str t.name, .slice .imm (if (t.kids.map dN).isEmpty = true then 0 else 4) (t.kids.map dN)] :: Z) B2) ∧ Hid (visI p A2 (cnL (t.kids.drop i)) = visI p A (cnT t)) ∧ A2.length + Tr.sizes (t.kids.drop i) ≤ A.length + t.size) ?_ (t.kids.length) _ ?_
    rotate_left
    ·have hc : (t.kind = 50 ∨ t.kind = 51) = True := by first | (simp []; done) | (simp_all; done)
     have hl5 : 4 < B.length := (List.getElem?_eq_some_iff.1 h4).1
     have hf1 : Free [[.int .u8 t.kind, .int .i64 t.num, .str t.name, .slice .imm (if (t.kids.map dN).isEmpty = true then 0 else 4) (t.kids.map dN)]] := by have := free1 t; rwa [dN_cells] at this
     have hst : stepI p A t.name = addI A (idxN p.procs t.name 0 p.procs.length) := by unfold stepI; rw [if_pos (by first | assumption | (simp_all; done))]
     exact ⟨0, addI A (idxN p.procs t.name 0 p.procs.length), [], _, _, _, rfl, rfl, Nat.zero_le _, Lib.hid ((((Bg.start h2).snoc hf1).set (by omega) _)), Lib.hid (by rw [cnT_eq, if_pos (of_eq_true hc), List.singleton_append]; show _ = visI p (stepI p A t.name) (cnL t.kids); rw [hst]; rfl), by have := addI_len A (idxN p.procs t.name 0 p.procs.length); rw [zd0, sizes_kids t]; omega⟩
    rintro m σ ⟨i, A2, Z, B2, nx2, lv2, hσ, rfl, hi, hB2, hA2, hL2⟩
    generalize slotOf σ = x at hσ
    subst hσ
    have hl5 : 4 < B.length := (List.getElem?_eq_some_iff.1 h4).1
    have g1 : B2[B.length]? = some [.int .u8 t.kind, .int .i64 t.num, .str t.name, .slice .imm (if (t.kids.map dN).isEmpty = true then 0 else 4) (t.kids.map dN)] := by have := hB2.out.get 0; simpa using this
    have g2 := hB2.out.inf (by omega)
    have g4 := hB2.out.in0 h4 (by omega)
    have g1s := fun l => snoc_get g1 l
    have g4s := fun l => snoc_get g4 l
    refine X_seq ?_
    refine X_rg fun R hR => ?_
    simp only [nat_lt, aops, astep, awant, aeff, aop, abin, aint, ev, St.put, zg1, zg0, zgd, zmo, if_true, zs1, zs0]
    with_reducible refine hR _ ?_
    clear hR R
    show X _ _ _ _
    refine X_seq ?_
    refine X_ite (by simp only [ev, zg1, zg0, zgd]; exact rfl) ?_ ?_
    ·intro b11
     have c11 := b11
     try simp only [decide_eq_true_eq] at c11
     refine X_skip ?_
     show X _ _ _ _
     refine X_seq ?_
     refine X_block ?_
     refine X_seq ?_
     have hlt : i < t.kids.length := by first | assumption | omega | simp_all
     have hn1 := idx_n (f := dN) (n := 4) hlt
     have e1 : (t.kids.map dN)[i]? = some (dN t.kids[i]) := by simp [hlt]
     refine X_rg fun R hR => ?_
     simp only [EVP, app_get0, app_set0, nat_lt, nat_0, nat_to, aops, astep, awant, aeff, aop, astore, ev, St.put, zg1, zg0, zgd, zmo, zbs, if_true, zs1, zs0, zlm, zlc, zln, zd1, zd0, zt0, zca, zna, Nat.reduceAdd, Nat.reduceLeDiff, Nat.zero_add, and_self, decide_true, zis, ty_api_Node, und_api_Node, siz_api_Node, inf_api_Node_eq, dN_cells, dN_isAgg, dN_good, sl, hlt, hn1, e1]
     with_reducible refine hR _ ?_
     clear hR R
     show X _ _ _ _
     have hsk : t.kids[i].size < t.size := by have h1 := sizes_kids t; have h2 := Tr.size_le_of_mem (List.getElem_mem hlt); omega
     have hsd := sizes_drop t.kids i hlt
     have hfk : Free [[.int .u8 t.kids[i].kind, .int .i64 t.kids[i].num, .str t.kids[i].name, .slice .imm (if (t.kids[i].kids.map dN).isEmpty = true then 0 else 4) (t.kids[i].kids.map dN)]] := by have := free1 t.kids[i]; rwa [dN_cells] at this
     have hB9 := hB2.out.snoc hfk
     have hun := hB9.un hu
     obtain ⟨_, B3, nx3, lv3, hc3, rfl, hB3⟩ := ih t.kids[i] hsk (B2 ++ [[.int .u8 t.kids[i].kind, .int .i64 t.kids[i].num, .str t.kids[i].name, .slice .imm (if (t.kids[i].kids.map dN).isEmpty = true then 0 else 4) (t.kids[i].kids.map dN)]]) nx2 lv2 A2 (hB9.in0 h0 (by omega)) (hB9.inf (by omega)) (hB9.in0 h3 (by omega)) (hB9.in0 h4 (by omega)) hun (by omega)
     have hB4 := hB9.set (by omega) (visI p A2 (cnT t.kids[i]))
     rw [← hB3] at hB4
     have g9 : (B2 ++ [([.int .u8 t.kids[i].kind, .int .i64 t.kids[i].num, .str t.kids[i].name, .slice .imm (if (t.kids[i].kids.map dN).isEmpty = true then 0 else 4) (t.kids[i].kids.map dN)] : List D)])[B2.length]? = some [.int .u8 t.kids[i].kind, .int .i64 t.kids[i].num, .str t.kids[i].name, .slice .imm (if (t.kids[i].kids.map dN).isEmpty = true then 0 else 4) (t.kids[i].kids.map dN)] := by simp
     refine X_rc fun R hR => ?_
     simp only [EVP, aops, astep, awant, aeff, aop, mkD, ev, St.put, ia_fn, zmc, zmn, zg1, zg0, zgd, zmo, if_true, zs1, zs0, zlc, zln, zd0, zt1, zt0, zca, zna, Nat.reduceAdd, Nat.reduceLeDiff, Nat.zero_add, zft, if_false, ty_api_Node, dN_agg, g4s, g9, hc3, ty_fN, any29]
     with_reducible refine hR _ ?_
     clear hR R
     show X _ _ _ _
     have hbig : i < 9223372036854775807 := by have h1 := Tr.length_le_sizes t.kids; have h2 := sizes_kids t; omega
     refine X_rg fun R hR => ?_
     simp only [inr_i64, Int.reduceLE, Int.reduceNeg, aops, astep, awant, aeff, aop, abin, aint, ev, ofValue, St.put, zg1, zg0, zgd, zmo, if_true, zs1, zs0, and_self, nat_succ hbig]
     with_reducible refine hR _ ?_
     clear hR R
     show ∃ m, m < _ ∧ _
     have hvl := visI_len p (cnT t.kids[i]) A2
     have hcl := cnT_len t.kids[i]
     exact ⟨t.kids.length - (i + 1), by omega, i + 1, visI p A2 (cnT t.kids[i]), _, B3, nx3, lv3, rfl, rfl, by omega, Lib.hid hB4, Lib.hid (by rw [← hA2.out, cnL_step hlt, visI_app]), by omega⟩
    ·intro b12
     have c12 := b12
     try simp only [decide_eq_false_iff_not] at c12
     refine X_exit ?_
     have hT : A2 = visI p A (cnT t) := by rw [← hA2.out, List.drop_of_length_le (by first | omega | (simp_all; omega))]; rfl
     subst hT
     refine ⟨.inl rfl, .tup [], rfl, rfl, ?_, ?_, rfl, hB2.out.cut⟩
     ·show B.length ≤ B2.length; rw [hB2.out.len]; omega
     ·rw [hB2.out.cut]; have := unBg_set hu 2 (visI p A (cnT t)); unfold UnBg at this; rwa [List.length_set] at this
   ·intro b13
    have c13 := b13
    try simp only [decide_eq_false_iff_not, Int.not_le, ge_iff_le] at c13
    refine X_skip ?_
    show X _ _ _ _
    refine X_seq ?_
    have g1b : ((B ++ [([.int .u8 t.kind, .int .i64 t.num, .str t.name, .slice .imm (if (t.kids.map dN).isEmpty = true then 0 else 4) (t.kids.map dN)] : List D)]).set 2 (iD (addI A (idxN p.procs t.name 0 p.procs.length))))[B.length]? = some [.int .u8 t.kind, .int .i64 t.num, .str t.name, .slice .imm (if (t.kids.map dN).isEmpty = true then 0 else 4) (t.kids.map dN)] := by rw [List.getElem?_set_ne (by have := (List.getElem?_eq_some_iff.1 h4).1; omega)]; exact g1
    refine X_rg fun R hR => ?_
    simp only [EVP, inr_i64, Int.reduceLE, Int.reduceNeg, aops, astep, awant, aeff, aop, mkD, ev, ofValue, St.put, ia_slice, zg1, zg0, zgd, zmo, if_true, zs1, zs0, zlm, zlc, zln, zd1, zd0, zt1, zt0, Nat.reduceAdd, Nat.reduceLeDiff, Nat.zero_add, zft, if_false, and_self, reduceCtorEq, ty_s_api_Node, ty_api_Node, und_api_Node, b13, g1]
    with_reducible refine hR _ ?_
    clear hR R
    show X _ _ _ _
    refine X_block ?_
    refine X_loop (fun m σ => ∃ (i : Nat) (A2 : List Int) (Z : List (List D)) (B2 : List (List D)) (nx2 : Nat) (lv2 : List Nat), σ = ⟨[slotOf σ 0, .ptr 0 0, .ptr 3 0, .ptr 4 0, .ptr B.length 0, slotOf σ 5, slotOf σ 6, slotOf σ 7, slotOf σ 8, slotOf σ 9, slotOf σ 10, slotOf σ 11, slotOf σ 12, slotOf σ 13, slotOf σ 14, slotOf σ 15, slotOf σ 16, slotOf σ 17, slotOf σ 18, slotOf σ 19, slotOf σ 20, slotOf σ 21, slotOf σ 22, slotOf σ 23, slotOf σ 24, .slice .imm (if (t.kids.map dN).isEmpty = true then 0 else 4) (t.kids.map dN), .int .i64 t.kids.length, .int .i64 i, slotOf σ 28, slotOf σ 29, slotOf σ 30, slotOf σ 31, slotOf σ 32, slotOf σ 33, slotOf σ 34], B2, nx2, lv2⟩ ∧ m = t.kids.length - i ∧ i ≤ t.kids.length ∧ Hid (Bg B 2 A2 ([.int .u8 t.kind, .int .i64 t.num, .str t.name, .slice .imm (if (t.kids.map dN).isEmpty = true then 0 else 4) (t.kids.map dN)] :: Z) B2) ∧ Hid (visI p A2 (cnL (t.kids.drop i)) = visI p A (cnT t)) ∧ A2.length + Tr.sizes (t.kids.drop i) ≤ A.length + t.size) ?_ (t.kids.length) _ ?_
    rotate_left
    ·have hc : (t.kind = 50 ∨ t.kind = 51) = True := by first | (simp []; done) | (simp_all; done)
     have hl5 : 4 < B.length := (List.getElem?_eq_some_iff.1 h4).1
     have hf1 : Free [[.int .u8 t.kind, .int .i64 t.num, .str t.name, .slice .imm (if (t.kids.map dN).isEmpty = true then 0 else 4) (t.kids.map dN)]] := by have := free1 t; rwa [dN_cells] at this
     have hst : stepI p A t.name = A := by unfold stepI; rw [if_neg (by first | assumption | (simp_all; done))]
     exact ⟨0, A, [], _, _, _, rfl, rfl, Nat.zero_le _, Lib.hid ((Bg.start h2).snoc hf1), Lib.hid (by rw [cnT_eq, if_pos (of_eq_true hc), List.singleton_append]; show _ = visI p (stepI p A t.name) (cnL t.kids); rw [hst]; rfl), by have := addI_len A (idxN p.procs t.name 0 p.procs.length); rw [zd0, sizes_kids t]; omega⟩
    rintro m σ ⟨i, A2, Z, B2, nx2, lv2, hσ, rfl, hi, hB2, hA2, hL2⟩
    generalize slotOf σ = x at hσ
    subst hσ
    have hl5 : 4 < B.length := (List.getElem?_eq_some_iff.1 h4).1
    have g1 : B2[B.length]? = some [.int .u8 t.kind, .int .i64 t.num, .str t.name, .slice .imm (if (t.kids.map dN).isEmpty = true then 0 else 4) (t.kids.map dN)] := by have := hB2.out.get 0; simpa using this
    have g2 := hB2.out.inf (by omega)
    have g4 := hB2.out.in0 h4 (by omega)
    have g1s := fun l => snoc_get g1 l
    have g4s := fun l => snoc_get g4 l
    refine X_seq ?_
    refine X_rg fun R hR => ?_
    simp only [nat_lt, aops, astep, awant, aeff, aop, abin, aint, ev, St.put, zg1, zg0, zgd, zmo, if_true, zs1, zs0]
    with_reducible refine hR _ ?_
    clear hR R
    show X _ _ _ _
    refine X_seq ?_
    refine X_ite (by simp only [ev, zg1, zg0, zgd]; exact rfl) ?_ ?_
    ·intro b14
     have c14 := b14
     try simp only [decide_eq_true_eq] at c14
     refine X_skip ?_
     show X _ _ _ _
     refine X_seq ?_
     refine X_block ?_
     refine X_seq ?_
     have hlt : i < t.kids.length := by first | assumption | omega | simp_all
     have hn1 := idx_n (f := dN) (n := 4) hlt
     have e1 : (t.kids.map dN)[i]? = some (dN t.kids[i]) := by simp [hlt]
     refine X_rg fun R hR => ?_
     simp only [EVP, app_get0, app_set0, nat_lt, nat_0, nat_to, aops, astep, awant, aeff, aop, astore, ev, St.put, zg1, zg0, zgd, zmo, zbs, if_true, zs1, zs0, zlm, zlc, zln, zd1, zd0, zt0, zca, zna, Nat.reduceAdd, Nat.reduceLeDiff, Nat.zero_add, and_self, decide_true, zis, ty_api_Node, und_api_Node, siz_api_Node, inf_api_Node_eq, dN_cells, dN_isAgg, dN_good, sl, hlt, hn1, e1]
     with_reducible refine hR _ ?_
     clear hR R
     show X _ _ _ _
     have hsk : t.kids[i].size < t.size := by have h1 := sizes_kids t; have h2 := Tr.size_le_of_mem (List.getElem_mem hlt); omega
     have hsd := sizes_drop t.kids i hlt
     have hfk : Free [[.int .u8 t.kids[i].kind, .int .i64 t.kids[i].num, .str t.kids[i].name, .slice .imm (if (t.kids[i].kids.map dN).isEmpty = true then 0 else 4) (t.kids[i].kids.map dN)]] := by have := free1 t.kids[i]; rwa [dN_cells] at this
     have hB9 := hB2.out.snoc hfk
     have hun := hB9.un hu
     obtain ⟨_, B3, nx3, lv3, hc3, rfl, hB3⟩ := ih t.kids[i] hsk (B2 ++ [[.int .u8 t.kids[i].kind, .int .i64 t.kids[i].num, .str t.kids[i].name, .slice .imm (if (t.kids[i].kids.map dN).isEmpty = true then 0 else 4) (t.kids[i].kids.map dN)]]) nx2 lv2 A2 (hB9.in0 h0 (by omega)) (hB9.inf (by omega)) (hB9.in0 h3 (by omega)) (hB9.in0 h4 (by omega)) hun (by omega)
     have hB4 := hB9.set (by omega) (visI p A2 (cnT t.kids[i]))
     rw [← hB3] at hB4
     have g9 : (B2 ++ [([.int .u8 t.kids[i].kind, .int .i64 t.kids[i].num, .str t.kids[i].name, .slice .imm (if (t.kids[i].kids.map dN).isEmpty = true then 0 else 4) (t.kids[i].kids.map dN)] : List D)])[B2.length]? = some [.int .u8 t.kids[i].kind, .int .i64 t.kids[i].num, .str t.kids[i].name, .slice .imm (if (t.kids[i].kids.map dN).isEmpty = true then 0 else 4) (t.kids[i].kids.map dN)] := by simp
     refine X_rc fun R hR => ?_
     simp only [EVP, aops, astep, awant, aeff, aop, mkD, ev, St.put, ia_fn, zmc, zmn, zg1, zg0, zgd, zmo, if_true, zs1, zs0, zlc, zln, zd0, zt1, zt0, zca, zna, Nat.reduceAdd, Nat.reduceLeDiff, Nat.zero_add, zft, if_false, ty_api_Node, dN_agg, g4s, g9, hc3, ty_fN, any29]
     with_reducible refine hR _ ?_
     clear hR R
     show X _ _ _ _
     have hbig : i < 9223372036854775807 := by have h1 := Tr.length_le_sizes t.kids; have h2 := sizes_kids t; omega
     refine X_rg fun R hR => ?_
     simp only [inr_i64, Int.reduceLE, Int.reduceNeg, aops, astep, awant, aeff, aop, abin, aint, ev, ofValue, St.put, zg1, zg0, zgd, zmo, if_true, zs1, zs0, and_self, nat_succ hbig]
     with_reducible refine hR _ ?_
     clear hR R
     show ∃ m, m < _ ∧ _
     have hvl := visI_len p (cnT t.kids[i]) A2
     have hcl := cnT_len t.kids[i]
     exact ⟨t.kids.length - (i + 1), by omega, i + 1, visI p A2 (cnT t.kids[i]), _, B3, nx3, lv3, rfl, rfl, by omega, Lib.hid hB4, Lib.hid (by rw [← hA2.out, cnL_step hlt, visI_app]), by omega⟩
    ·intro b15
     have c15 := b15
     try simp only [decide_eq_false_iff_not] at c15
     refine X_exit ?_
     have hT : A2 = visI p A (cnT t) := by rw [← hA2.out, List.drop_of_length_le (by first | omega | (simp_all; omega))]; rfl
     subst hT
     refine ⟨.inl rfl, .tup [], rfl, rfl, ?_, ?_, rfl, hB2.out.cut⟩
     ·show B.length ≤ B2.length; rw [hB2.out.len]; omega
     ·rw [hB2.out.cut]; have := unBg_set hu 2 (visI p A (cnT t)); unfold UnBg at this; rwa [List.length_set] at this
  ·intro b16
   have c16 := b16
   try simp only [ne_eq, beq_eq_false_iff_ne] at c16
   refine X_skip ?_
   show X _ _ _ _
   refine X_seq ?_
   have g1b : ((B ++ [([.int .u8 t.kind, .int .i64 t.num, .str t.name, .slice .imm (if (t.kids.map dN).isEmpty = true then 0 else 4) (t.kids.map dN)] : List D)]).set 2 (iD (addI A (idxN p.procs t.name 0 p.procs.length))))[B.length]? = some [.int .u8 t.kind, .int .i64 t.num, .str t.name, .slice .imm (if (t.kids.map dN).isEmpty = true then 0 else 4) (t.kids.map dN)] := by rw [List.getElem?_set_ne (by have := (List.getElem?_eq_some_iff.1 h4).1; omega)]; exact g1
   refine X_rg fun R hR => ?_
   simp only [EVP, inr_i64, Int.reduceLE, Int.reduceNeg, aops, astep, awant, aeff, aop, mkD, ev, ofValue, St.put, ia_slice, zg1, zg0, zgd, zmo, if_true, zs1, zs0, zlm, zlc, zln, zd1, zd0, zt1, zt0, Nat.reduceAdd, Nat.reduceLeDiff, Nat.zero_add, zft, if_false, and_self, reduceCtorEq, ty_s_api_Node, ty_api_Node, und_api_Node, b16, g1]
   with_reducible refine hR _ ?_
   clear hR R
   show X _ _ _ _
   refine X_block ?_
   refine X_loop (fun m σ => ∃ (i : Nat) (A2 : List Int) (Z : List (List D)) (B2 : List (List D)) (nx2 : Nat) (lv2 : List Nat), σ = ⟨[slotOf σ 0, .ptr 0 0, .ptr 3 0, .ptr 4 0, .ptr B.length 0, slotOf σ 5, slotOf σ 6, slotOf σ 7, slotOf σ 8, slotOf σ 9, slotOf σ 10, slotOf σ 11, slotOf σ 12, slotOf σ 13, slotOf σ 14, slotOf σ 15, slotOf σ 16, slotOf σ 17, slotOf σ 18, slotOf σ 19, slotOf σ 20, slotOf σ 21, slotOf σ 22, slotOf σ 23, slotOf σ 24, .slice .imm (if (t.kids.map dN).isEmpty = true then 0 else 4) (t.kids.map dN), .int .i64 t.kids.length, .int .i64 i, slotOf σ 28, slotOf σ 29, slotOf σ 30, slotOf σ 31, slotOf σ 32, slotOf σ 33, slotOf σ 34], B2, nx2, lv2⟩ ∧ m = t.kids.length - i ∧ i ≤ t.kids.length ∧ Hid (Bg B 2 A2 ([.int .u8 t.kind, .int .i64 t.num, .str t.name, .slice .imm (if (t.kids.map dN).isEmpty = true then 0 else 4) (t.kids.map dN)] :: Z) B2) ∧ Hid (visI p A2 (cnL (t.kids.drop i)) = visI p A (cnT t)) ∧ A2.length + Tr.sizes (t.kids.drop i) ≤ A.length + t.size) ?_ (t.kids.length) _ ?_
   rotate_left
   ·have hc : (t.kind = 50 ∨ t.kind = 51) = False := by first | (simp []; done) | (simp_all; done)
    have hl5 : 4 < B.length := (List.getElem?_eq_some_iff.1 h4).1
    have hf1 : Free [[.int .u8 t.kind, .int .i64 t.num, .str t.name, .slice .imm (if (t.kids.map dN).isEmpty = true then 0 else 4) (t.kids.map dN)]] := by have := free1 t; rwa [dN_cells] at this
    exact ⟨0, A, [], _, _, _, rfl, rfl, Nat.zero_le _, Lib.hid ((Bg.start h2).snoc hf1), Lib.hid (by rw [cnT_eq, if_neg (of_eq_false hc)]; rfl), by rw [zd0, sizes_kids t]; omega⟩
   rintro m σ ⟨i, A2, Z, B2, nx2, lv2, hσ, rfl, hi, hB2, hA2, hL2⟩
   generalize slotOf σ = x at hσ
   subst hσ
   have hl5 : 4 < B.length := (List.getElem?_eq_some_iff.1 h4).1
   have g1 : B2[B.length]? = some [.int .u8 t.kind, .int .i64 t.num, .str t.name, .slice .imm (if (t.kids.map dN).isEmpty = true then 0 else 4) (t.kids.map dN)] := by have := hB2.out.get 0; simpa using this
   have g2 := hB2.out.inf (by omega)
   have g4 := hB2.out.in0 h4 (by omega)
   have g1s := fun l => snoc_get g1 l
   have g4s := fun l => snoc_get g4 l
   refine X_seq ?_
   refine X_rg fun R hR => ?_
   simp only [nat_lt, aops, astep, awant, aeff, aop, abin, aint, ev, St.put, zg1, zg0, zgd, zmo, if_true, zs1, zs0]
   with_reducible refine hR _ ?_
   clear hR R
   show X _ _ _ _
   refine X_seq ?_
   refine X_ite (by simp only [ev, zg1, zg0, zgd]; exact rfl) ?_ ?_
   ·intro b17
    have c17 := b17
    try simp only [decide_eq_true_eq] at c17
    refine X_skip ?_
    show X _ _ _ _
    refine X_seq ?_
    refine X_block ?_
    refine X_seq ?_
    have hlt : i < t.kids.length := by first | assumption | omega | simp_all
    have hn1 := idx_n (f := dN) (n := 4) hlt
    have e1 : (t.kids.map dN)[i]? = some (dN t.kids[i]) := by simp [hlt]
    refine X_rg fun R hR => ?_
    simp only [EVP, app_get0, app_set0, nat_lt, nat_0, nat_to, aops, astep, awant, aeff, aop, astore, ev, St.put, zg1, zg0, zgd, zmo, zbs, if_true, zs1, zs0, zlm, zlc, zln, zd1, zd0, zt0, zca, zna, Nat.reduceAdd, Nat.reduceLeDiff, Nat.zero_add, and_self, decide_true, zis, ty_api_Node, und_api_Node, siz_api_Node, inf_api_Node_eq, dN_cells, dN_isAgg, dN_good, sl, hlt, hn1, e1]
    with_reducible refine hR _ ?_
    clear hR R
    show X _ _ _ _
    have hsk : t.kids[i].size < t.size := by have h1 := sizes_kids t; have h2 := Tr.size_le_of_mem (List.getElem_mem hlt); omega
    have hsd := sizes_drop t.kids i hlt
    have hfk : Free [[.int .u8 t.kids[i].kind, .int .i64 t.kids[i].num, .str t.kids[i].name, .slice .imm (if (t.kids[i].kids.map dN).isEmpty = true then 0 else 4) (t.kids[i].kids.map dN)]] := by have := free1 t.kids[i]; rwa [dN_cells] at this
    have hB9 := hB2.out.snoc hfk
    have hun := hB9.un hu
    obtain ⟨_, B3, nx3, lv3, hc3, rfl, hB3⟩ := ih t.kids[i] hsk (B2 ++ [[.int .u8 t.kids[i].kind, .int .i64 t.kids[i].num, .str t.kids[i].name, .slice .imm (if (t.kids[i].kids.map dN).isEmpty = true then 0 else 4) (t.kids[i].kids.map dN)]]) nx2 lv2 A2 (hB9.in0 h0 (by omega)) (hB9.inf (by omega)) (hB9.in0 h3 (by omega)) (hB9.in0 h4 (by omega)) hun (by omega)
    have hB4 := hB9.set (by omega) (visI p A2 (cnT t.kids[i]))
    rw [← hB3] at hB4
    have g9 : (B2 ++ [([.int .u8 t.kids[i].kind, .int .i64 t.kids[i].num, .str t.kids[i].name, .slice .imm (if (t.kids[i].kids.map dN).isEmpty = true then 0 else 4) (t.kids[i].kids.map dN)] : List D)])[B2.length]? = some [.int .u8 t.kids[i].kind, .int .i64 t.kids[i].num, .str t.kids[i].name, .slice .imm (if (t.kids[i].kids.map dN).isEmpty = true then 0 else 4) (t.kids[i].kids.map dN)] := by simp
    refine X_rc fun R hR => ?_
    simp only [EVP, aops, astep, awant, aeff, aop, mkD, ev, St.put, ia_fn, zmc, zmn, zg1, zg0, zgd, zmo, if_true, zs1, zs0, zlc, zln, zd0, zt1, zt0, zca, zna, Nat.reduceAdd, Nat.reduceLeDiff, Nat.zero_add, zft, if_false, ty_api_Node, dN_agg, g4s, g9, hc3, ty_fN, any29]
    with_reducible refine hR _ ?_
    clear hR R
    show X _ _ _ _
    have hbig : i < 9223372036854775807 := by have h1 := Tr.length_le_sizes t.kids; have h2 := sizes_kids t; omega
    refine X_rg fun R hR => ?_
    simp only [inr_i64, Int.reduceLE, Int.reduceNeg, aops, astep, awant, aeff, aop, abin, aint, ev, ofValue, St.put, zg1, zg0, zgd, zmo, if_true, zs1, zs0, and_self, nat_succ hbig]
    with_reducible refine hR _ ?_
    clear hR R
    show ∃ m, m < _ ∧ _
    have hvl := visI_len p (cnT t.kids[i]) A2
    have hcl := cnT_len t.kids[i]
    exact ⟨t.kids.length - (i + 1), by omega, i + 1, visI p A2 (cnT t.kids[i]), _, B3, nx3, lv3, rfl, rfl, by omega, Lib.hid hB4, Lib.hid (by rw [← hA2.out, cnL_step hlt, visI_app]), by omega⟩
   ·intro b18
    have c18 := b18
    try simp only [decide_eq_false_iff_not] at c18
    refine X_exit ?_
    have hT : A2 = visI p A (cnT t) := by rw [← hA2.out, List.drop_of_length_le (by first | omega | (simp_all; omega))]; rfl
    subst hT
    refine ⟨.inl rfl, .tup [], rfl, rfl, ?_, ?_, rfl, hB2.out.cut⟩
    ·show B.length ≤ B2.length; rw [hB2.out.len]; omega
    ·rw [hB2.out.cut]; have := unBg_set hu 2 (visI p A (cnT t)); unfold UnBg at this; rwa [List.length_set] at this
theorem keysCa_no {k : Nat} (h : k ≠ 31) (a : List D) (σ : St) : keysCa k a σ = none := by
 unfold keysCa
 rw [dif_neg (fun q => h q.1)]
theorem unB5 (p : Pg) (t : Tr) (A : List Int) : UnBg [[.slice .imm (if (p.vars.map dV).isEmpty = true then 0 else 3) (p.vars.map dV), .slice .imm (if (p.procs.map dP).isEmpty = true then 0 else 6) (p.procs.map dP), .int .u8 p.main.kind, .int .i64 p.main.num, .str p.main.name, .slice .imm (if (p.main.kids.map dN).isEmpty = true then 0 else 4) (p.main.kids.map dN)], [.int .u8 t.kind, .int .i64 t.num, .str t.name, .slice .imm (if (t.kids.map dN).isEmpty = true then 0 else 4) (t.kids.map dN)], iD A, [.mref 2], [.fn 29 [.ptr 0 0, .ptr 3 0, .ptr 4 0]]] := by
 unfold UnBg
 rw [List.all_eq_true]
 intro x hx
 simp only [List.mem_cons, List.not_mem_nil, or_false] at hx
 rcases hx with rfl | rfl | rfl | rfl | rfl
 ·exact dG_under _ p
 ·have := free1 t _ List.mem_cons_self 5
  rwa [dN_cells] at this
 ·exact iD_under _ A
 ·rfl
 ·rfl
def clF (p : Pg) (q : Int) : List Int := match bodyAt p q with
 | some t => sortI (visI p [] (cnT t))
 | none => []
set_option maxRecDepth 100000 in
set_option maxHeartbeats 4000000 in
theorem calls_b1 (p : Pg) (_hs : Sml p) (q : Int) (hq : q < -1) : PContract Tryz.prog 10 [dG p, .int .i64 q] (sl 1 []) := by
 refine S_pure (f := _) Tryz.func10 rfl (by rw [List.all_cons, List.all_cons, List.all_nil, dG_under]; rfl) (by show [(dG p).strip, _] = _; rw [dG_strip]; rfl) ?_
 simp only [enterSt, Tryz.ntmps10, zlc, zln, Nat.reduceAdd, Nat.reduceSub, zr1, zr0, zca, zna]
 refine S_seq ?_
 refine S_of_X EV_ok (by kernel_rfl) ?_
 refine X_rg fun R hR => ?_
 simp only [aops, astep, awant, aeff, aop, ev, ofValue, St.put, zg0, zgd, zmo, if_true, zs1, zs0, zln, zna, dG_cells, dG_good]
 with_reducible refine hR _ ?_
 clear hR R
 show S _ _ _ _ _
 refine S_seq ?_
 refine S_seq ?_
 have h1 : (decide (q < -1)) = true := by simpa using hq
 refine S_of_X EV_ok (by kernel_rfl) ?_
 refine X_rg fun R hR => ?_
 simp only [EVP, inr_i64, Int.reduceLE, Int.reduceNeg, aops, astep, awant, aeff, aop, abin, aint, ev, ofValue, St.put, zg1, zg0, zgd, zmo, Option.map_none, zbs, if_true, zs1, zs0, Nat.zero_add, zft, if_false, and_self, reduceCtorEq, bq_tf, ty_s_api_Proc, ty_api_Program, und_api_Proc, h1]
 with_reducible refine hR _ ?_
 clear hR R
 show S _ _ _ _ _
 refine S_true (by simp only [ev, zg1, zg0, zgd]) ?_
 refine S_seq ?_
 refine S_of_X EV_ok (by kernel_rfl) ?_
 refine X_rg fun R hR => ?_
 simp only [aops, astep, awant, aeff, aop, ev, ofValue, St.put, zgd, zmo, if_true, zs1, zs0]
 with_reducible refine hR _ ?_
 clear hR R
 show S _ _ _ _ _
 refine S_ret ?_
 refine ⟨.inr rfl, .slice .nil 0 [], ?_, rfl, rfl⟩
 simp only [resD, resAll, resOne, resTup, Tryz.results10, zg1, zg0, D.good, if_true, zmo]; try rfl
set_option maxRecDepth 100000 in
set_option maxHeartbeats 4000000 in
theorem calls_b2 (p : Pg) (_hs : Sml p) (q : Int) (hq0 : ¬ q < -1) (hq : (p.procs.length : Int) ≤ q) : PContract Tryz.prog 10 [dG p, .int .i64 q] (sl 1 []) := by
 refine S_pure (f := _) Tryz.func10 rfl (by rw [List.all_cons, List.all_cons, List.all_nil, dG_under]; rfl) (by show [(dG p).strip, _] = _; rw [dG_strip]; rfl) ?_
 simp only [enterSt, Tryz.ntmps10, zlc, zln, Nat.reduceAdd, Nat.reduceSub, zr1, zr0, zca, zna]
 refine S_seq ?_
 refine S_of_X EV_ok (by kernel_rfl) ?_
 refine X_rg fun R hR => ?_
 simp only [aops, astep, awant, aeff, aop, ev, ofValue, St.put, zg0, zgd, zmo, if_true, zs1, zs0, zln, zna, dG_cells, dG_good]
 with_reducible refine hR _ ?_
 clear hR R
 show S _ _ _ _ _
 refine S_seq ?_
 refine S_seq ?_
 have h1 : (decide (q < -1)) = false := by simpa using hq0
 have h2 : (decide (q ≥ (p.procs.length : Int))) = true := by simpa using hq
 refine S_of_X EV_ok (by kernel_rfl) ?_
 refine X_rg fun R hR => ?_
 simp only [EVP, inr_i64, Int.reduceLE, Int.reduceNeg, aops, astep, awant, aeff, aop, abin, aint, mkD, ev, ofValue, St.put, ia_slice, zg1, zg0, zgd, zmo, zbs, if_true, zs1, zs0, zlm, zlc, zln, zd1, zd0, zt1, zt0, Nat.reduceAdd, Nat.reduceLeDiff, Nat.zero_add, zft, if_false, and_self, reduceCtorEq, beq_self_eq_true, ty_s_api_Proc, ty_api_Program, und_api_Proc, h1, h2]
 with_reducible refine hR _ ?_
 clear hR R
 show S _ _ _ _ _
 refine S_true (by simp only [ev, zg1, zg0, zgd]) ?_
 refine S_seq ?_
 refine S_of_X EV_ok (by kernel_rfl) ?_
 refine X_rg fun R hR => ?_
 simp only [aops, astep, awant, aeff, aop, ev, ofValue, St.put, zgd, zmo, if_true, zs1, zs0]
 with_reducible refine hR _ ?_
 clear hR R
 show S _ _ _ _ _
 refine S_ret ?_
 refine ⟨.inr rfl, .slice .nil 0 [], ?_, rfl, rfl⟩
 simp only [resD, resAll, resOne, resTup, Tryz.results10, zg1, zg0, D.good, if_true, zmo]; try rfl
set_option maxRecDepth 100000 in
set_option maxHeartbeats 4000000 in
theorem calls_m (p : Pg) (hs : Sml p)  : PContract Tryz.prog 10 [dG p, .int .i64 (-1)] (sl 1 ((sortI (visI p [] (cnT p.main))).map dI)) := by
 refine S_pure (f := _) Tryz.func10 rfl (by rw [List.all_cons, List.all_cons, List.all_nil, dG_under]; rfl) (by show [(dG p).strip, _] = _; rw [dG_strip]; rfl) ?_
 simp only [enterSt, Tryz.ntmps10, zlc, zln, Nat.reduceAdd, Nat.reduceSub, zr1, zr0, zca, zna]
 refine S_seq ?_
 refine S_of_X EV_ok (by kernel_rfl) ?_
 refine X_rg fun R hR => ?_
 simp only [Int.reduceNeg, aops, astep, awant, aeff, aop, ev, ofValue, St.put, zg0, zgd, zmo, if_true, zs1, zs0, zln, zna, dG_cells, dG_good]
 with_reducible refine hR _ ?_
 clear hR R
 show S _ _ _ _ _
 refine S_seq ?_
 refine S_seq ?_
 have h1 : (decide ((-1) < (-1 : Int))) = false := by first | rfl | (simp; done) | (simp; omega)
 have h2 : (decide ((-1) ≥ (p.procs.length : Int))) = false := by first | (simp; done) | (simp; omega)
 refine S_of_X EV_ok (by kernel_rfl) ?_
 refine X_rg fun R hR => ?_
 simp only [EVP, inr_i64, Int.reduceLE, Int.reduceNeg, aops, astep, awant, aeff, aop, abin, aint, mkD, ev, ofValue, St.put, ia_slice, zg1, zg0, zgd, zmo, zbs, if_true, zs1, zs0, zlm, zlc, zln, zd1, zd0, zt1, zt0, Nat.reduceAdd, Nat.reduceLeDiff, Nat.zero_add, zft, if_false, and_self, reduceCtorEq, decide_false, beq_self_eq_true, Int.reduceLT, ty_s_api_Proc, ty_api_Program, und_api_Proc, h2]
 with_reducible refine hR _ ?_
 clear hR R
 show S _ _ _ _ _
 refine S_false (by simp only [ev, zg1, zg0, zgd]) ?_
 refine S_skip ?_
 show S _ _ _ _ _
 refine S_seq ?_
 refine S_of_X EV_ok (by kernel_rfl) ?_
 refine X_rg fun R hR => ?_
 simp only [EVP, Int.reduceNeg, aops, astep, awant, aeff, aop, mkD, astore, ev, St.put, zg1, zg0, zgd, zmo, zbs, if_true, zs1, zs0, zlc, zln, zd1, zd0, zt1, zt0, zca, zna, Nat.reduceAdd, Nat.reduceLeDiff, Nat.zero_add, if_false, and_self, reduceCtorEq, ty_api_Node, ty_api_Program, dN_agg, dN_cells, dN_good, sl]
 with_reducible refine hR _ ?_
 clear hR R
 show S _ _ _ _ _
 refine S_seq ?_
 refine S_seq ?_
 have h3 : (decide ((-1) ≥ (0 : Int))) = false := by simp
 refine S_of_X EV_ok (by kernel_rfl) ?_
 refine X_rg fun R hR => ?_
 simp only [inr_i64, Int.reduceLE, Int.reduceNeg, aops, astep, awant, aeff, aop, abin, aint, ev, ofValue, St.put, zg1, zg0, zgd, zmo, if_true, zs1, zs0, and_self, decide_false, Int.reduceGE]
 with_reducible refine hR _ ?_
 clear hR R
 show S _ _ _ _ _
 refine S_false (by simp only [ev, zg1, zg0, zgd]) ?_
 refine S_skip ?_
 show S _ _ _ _ _
 refine S_seq ?_
 refine S_of_X EV_ok (by kernel_rfl) ?_
 refine X_rg fun R hR => ?_
 simp only [EVP, Int.reduceNeg, aops, astep, awant, aeff, astore, ev, St.put, gd_mref, cl_mref, zg1, zg0, zgd, zmo, zbs, if_true, zs1, zs0, zlc, zln, zd1, zd0, zt0, zca, zna, Nat.reduceAdd, Nat.reduceLeDiff, Nat.zero_add, and_self, Option.isNone_none, ty_mib]
 with_reducible refine hR _ ?_
 clear hR R
 show S _ _ _ _ _
 refine S_seq ?_
 refine S_of_X EV_ok (by kernel_rfl) ?_
 refine X_rg fun R hR => ?_
 simp only [EVP, Int.reduceNeg, aops, astep, awant, aeff, St.put, zmo, zbs, if_true, zs1, zs0, zlc, zln, zca, zna, Nat.reduceAdd, Nat.zero_add, ty_fN]
 with_reducible refine hR _ ?_
 clear hR R
 show S _ _ _ _ _
 refine S_seq ?_
 refine S_of_X EV_ok (by kernel_rfl) ?_
 refine X_rg fun R hR => ?_
 simp only [EVP, Int.reduceNeg, aops, astep, awant, aeff, aop, astore, ev, St.put, gd_ptr, ia_ptr, gd_fn, cl_fn, zmc, zmn, zg1, zg0, zgd, zmo, if_true, zs1, zs0, zlc, zln, zd1, zd0, zt0, zca, zna, Nat.reduceLeDiff, Nat.zero_add, Bool.and_true, Bool.not_false, and_self, List.all_cons, List.all_nil, Array.isEmpty_empty, ty_fN]
 with_reducible refine hR _ ?_
 clear hR R
 show S _ _ _ _ _
 refine S_seq ?_
 have hbz := hs.at (bodyAt_main p)
 have hpn := hs.n
 obtain ⟨_, B3, nx3, lv3, hc3, rfl, hB3⟩ := gvisit_cal (p := p) (by omega) _ p.main (Nat.le_refl _) [[.slice .imm (if (p.vars.map dV).isEmpty = true then 0 else 3) (p.vars.map dV), .slice .imm (if (p.procs.map dP).isEmpty = true then 0 else 6) (p.procs.map dP), .int .u8 p.main.kind, .int .i64 p.main.num, .str p.main.name, .slice .imm (if (p.main.kids.map dN).isEmpty = true then 0 else 4) (p.main.kids.map dN)], [.int .u8 p.main.kind, .int .i64 p.main.num, .str p.main.name, .slice .imm (if (p.main.kids.map dN).isEmpty = true then 0 else 4) (p.main.kids.map dN)], [], [.mref 2], [.fn 29 [.ptr 0 0, .ptr 3 0, .ptr 4 0]]] 0 [] [] rfl rfl rfl rfl (unB5 p p.main []) (by simp; omega)
 simp only [zs1, zs0] at hB3
 subst hB3
 refine S_of_X EV_ok (by kernel_rfl) ?_
 refine X_rc fun R hR => ?_
 simp only [EVP, Int.reduceNeg, aops, astep, awant, aeff, aop, mkD, ev, St.put, ia_fn, zmc, zmn, zg1, zg0, zgd, zmo, if_true, zs1, zs0, zlc, zln, zd0, zt1, zt0, zca, zna, Nat.reduceAdd, Nat.reduceLeDiff, Nat.zero_add, zft, if_false, ty_api_Node, any29, dN_agg, hc3, ty_fN, any29]
 with_reducible refine hR _ ?_
 clear hR R
 show S _ _ _ _ _
 refine S_seq ?_
 have hk1 := keysCa_no (k := 30) (by decide)
 have hs1 := fun fr => sortedCa_eq (A := (visI p [] (cnT p.main))) (j := 5) (i := 2) (σ := ⟨fr, [[.slice .imm (if (p.vars.map dV).isEmpty = true then 0 else 3) (p.vars.map dV), .slice .imm (if (p.procs.map dP).isEmpty = true then 0 else 6) (p.procs.map dP), .int .u8 p.main.kind, .int .i64 p.main.num, .str p.main.name, .slice .imm (if (p.main.kids.map dN).isEmpty = true then 0 else 4) (p.main.kids.map dN)], [.int .u8 p.main.kind, .int .i64 p.main.num, .str p.main.name, .slice .imm (if (p.main.kids.map dN).isEmpty = true then 0 else 4) (p.main.kids.map dN)], iD (visI p [] (cnT p.main)), [.mref 2], [.fn 29 [.ptr 0 0, .ptr 3 0, .ptr 4 0]], [.mref 2]], nx3, lv3⟩) rfl rfl
 simp only [sl] at hs1
 refine S_rg ((CaOk.keys).or (CaOk.sorted (A := (visI p [] (cnT p.main))) 5 2 (by have h1 := visI_len p (cnT p.main) []; have h2 := cnT_len p.main; simp only [zln] at h1; omega))) (by kernel_rfl) fun R hR => ?_
 simp only [Int.reduceNeg, aops, astep, awant, aeff, aop, mkD, ev, St.put, ia_mref, zmc, zmn, zg1, zg0, zgd, zmo, if_true, zs1, zs0, zlc, zln, zd0, zt1, zt0, zca, zna, Nat.reduceAdd, Nat.reduceLeDiff, Nat.zero_add, zft, if_false, any30, any31, ty_mib, calOr, keysCa_eq, hk1, hs1]
 with_reducible refine hR _ ?_
 clear hR R
 show S _ _ _ _ _
 refine S_ret ?_
 refine ⟨.inr rfl, sl 1 ((sortI (visI p [] (cnT p.main))).map dI), ?_, sl_under (map_under (f := dI) (fun _ => rfl) _), sl_strip (map_strip (f := dI) (fun _ => rfl) _)⟩
 simp only [resD, resAll, resOne, resTup, Tryz.results10, zg1, zg0, D.good, if_true, zmo]; try rfl
set_option maxRecDepth 100000 in
set_option maxHeartbeats 4000000 in
theorem calls_k (p : Pg) (hs : Sml p) (k : Nat) (hk : k < p.procs.length) : PContract Tryz.prog 10 [dG p, .int .i64 (k : Int)] (sl 1 ((sortI (visI p [] (cnT p.procs[k].body))).map dI)) := by
 refine S_pure (f := _) Tryz.func10 rfl (by rw [List.all_cons, List.all_cons, List.all_nil, dG_under]; rfl) (by show [(dG p).strip, _] = _; rw [dG_strip]; rfl) ?_
 simp only [enterSt, Tryz.ntmps10, zlc, zln, Nat.reduceAdd, Nat.reduceSub, zr1, zr0, zca, zna]
 refine S_seq ?_
 refine S_of_X EV_ok (by kernel_rfl) ?_
 refine X_rg fun R hR => ?_
 simp only [aops, astep, awant, aeff, aop, ev, ofValue, St.put, zg0, zgd, zmo, if_true, zs1, zs0, zln, zna, dG_cells, dG_good]
 with_reducible refine hR _ ?_
 clear hR R
 show S _ _ _ _ _
 refine S_seq ?_
 refine S_seq ?_
 have h1 : (decide ((k : Int) < (-1 : Int))) = false := by first | rfl | (simp; done) | (simp; omega)
 have h2 : (decide ((k : Int) ≥ (p.procs.length : Int))) = false := by first | (simp; done) | (simp; omega)
 refine S_of_X EV_ok (by kernel_rfl) ?_
 refine X_rg fun R hR => ?_
 simp only [EVP, inr_i64, Int.reduceLE, Int.reduceNeg, aops, astep, awant, aeff, aop, abin, aint, mkD, ev, ofValue, St.put, ia_slice, zg1, zg0, zgd, zmo, zbs, if_true, zs1, zs0, zlm, zlc, zln, zd1, zd0, zt1, zt0, Nat.reduceAdd, Nat.reduceLeDiff, Nat.zero_add, zft, if_false, and_self, reduceCtorEq, beq_self_eq_true, ty_s_api_Proc, ty_api_Program, und_api_Proc, h1, h2]
 with_reducible refine hR _ ?_
 clear hR R
 show S _ _ _ _ _
 refine S_false (by simp only [ev, zg1, zg0, zgd]) ?_
 refine S_skip ?_
 show S _ _ _ _ _
 refine S_seq ?_
 refine S_of_X EV_ok (by kernel_rfl) ?_
 refine X_rg fun R hR => ?_
 simp only [EVP, aops, astep, awant, aeff, aop, mkD, astore, ev, St.put, zg1, zg0, zgd, zmo, zbs, if_true, zs1, zs0, zlc, zln, zd1, zd0, zt1, zt0, zca, zna, Nat.reduceAdd, Nat.reduceLeDiff, Nat.zero_add, if_false, and_self, reduceCtorEq, ty_api_Node, ty_api_Program, dN_agg, dN_cells, dN_good, sl]
 with_reducible refine hR _ ?_
 clear hR R
 show S _ _ _ _ _
 refine S_seq ?_
 refine S_seq ?_
 have h3 : (decide ((k : Int) ≥ (0 : Int))) = true := by simp
 refine S_of_X EV_ok (by kernel_rfl) ?_
 refine X_rg fun R hR => ?_
 simp only [inr_i64, Int.reduceLE, Int.reduceNeg, nat_0, aops, astep, awant, aeff, aop, abin, aint, ev, ofValue, St.put, zg1, zg0, zgd, zmo, if_true, zs1, zs0, and_self, decide_true]
 with_reducible refine hR _ ?_
 clear hR R
 show S _ _ _ _ _
 refine S_true (by simp only [ev, zg1, zg0, zgd]) ?_
 have hn0 := idx_n (f := dP) (n := 6) hk
 have e0 : (p.procs.map dP)[k]? = some (.agg [.str p.procs[k].name, .slice .imm (if (p.procs[k].params.map dV).isEmpty = true then 0 else 3) (p.procs[k].params.map dV), .int .u8 p.procs[k].body.kind, .int .i64 p.procs[k].body.num, .str p.procs[k].body.name, .slice .imm (if (p.procs[k].body.kids.map dN).isEmpty = true then 0 else 4) (p.procs[k].body.kids.map dN)]) := by rw [List.getElem?_map, List.getElem?_eq_getElem hk]; rfl
 refine S_of_X EV_ok (by kernel_rfl) ?_
 refine X_rg fun R hR => ?_
 simp only [EVP, nat_lt, nat_0, nat_to, aops, astep, awant, aeff, aop, mkD, astore, ev, St.put, ia_slice, zg1, zg0, zgd, zmo, if_true, zs1, zs0, zlm, zlc, zln, zd1, zd0, zt1, zt0, zca, zna, Nat.reduceAdd, Nat.reduceLeDiff, Nat.zero_add, zft, if_false, and_self, reduceCtorEq, zis, ty_s_api_Proc, ty_api_Node, ty_api_Proc, ty_api_Program, und_api_Proc, siz_api_Proc, inf_api_Proc_eq, dN_agg, dN_cells, dN_isAgg, dN_good, sl, hk, hn0, e0]
 with_reducible refine hR _ ?_
 clear hR R
 show S _ _ _ _ _
 refine S_seq ?_
 refine S_of_X EV_ok (by kernel_rfl) ?_
 refine X_rg fun R hR => ?_
 simp only [EVP, aops, astep, awant, aeff, astore, ev, St.put, gd_mref, cl_mref, zg1, zg0, zgd, zmo, zbs, if_true, zs1, zs0, zlc, zln, zd1, zd0, zt0, zca, zna, Nat.reduceAdd, Nat.reduceLeDiff, Nat.zero_add, and_self, Option.isNone_none, ty_mib]
 with_reducible refine hR _ ?_
 clear hR R
 show S _ _ _ _ _
 refine S_seq ?_
 refine S_of_X EV_ok (by kernel_rfl) ?_
 refine X_rg fun R hR => ?_
 simp only [EVP, aops, astep, awant, aeff, St.put, zmo, zbs, if_true, zs1, zs0, zlc, zln, zca, zna, Nat.reduceAdd, Nat.zero_add, ty_fN]
 with_reducible refine hR _ ?_
 clear hR R
 show S _ _ _ _ _
 refine S_seq ?_
 refine S_of_X EV_ok (by kernel_rfl) ?_
 refine X_rg fun R hR => ?_
 simp only [EVP, aops, astep, awant, aeff, aop, astore, ev, St.put, gd_ptr, ia_ptr, gd_fn, cl_fn, zmc, zmn, zg1, zg0, zgd, zmo, if_true, zs1, zs0, zlc, zln, zd1, zd0, zt0, zca, zna, Nat.reduceLeDiff, Nat.zero_add, Bool.and_true, Bool.not_false, and_self, List.all_cons, List.all_nil, Array.isEmpty_empty, ty_fN]
 with_reducible refine hR _ ?_
 clear hR R
 show S _ _ _ _ _
 refine S_seq ?_
 have hbz := hs.at (bodyAt_proc p k hk)
 have hpn := hs.n
 obtain ⟨_, B3, nx3, lv3, hc3, rfl, hB3⟩ := gvisit_cal (p := p) (by omega) _ p.procs[k].body (Nat.le_refl _) [[.slice .imm (if (p.vars.map dV).isEmpty = true then 0 else 3) (p.vars.map dV), .slice .imm (if (p.procs.map dP).isEmpty = true then 0 else 6) (p.procs.map dP), .int .u8 p.main.kind, .int .i64 p.main.num, .str p.main.name, .slice .imm (if (p.main.kids.map dN).isEmpty = true then 0 else 4) (p.main.kids.map dN)], [.int .u8 p.procs[k].body.kind, .int .i64 p.procs[k].body.num, .str p.procs[k].body.name, .slice .imm (if (p.procs[k].body.kids.map dN).isEmpty = true then 0 else 4) (p.procs[k].body.kids.map dN)], [], [.mref 2], [.fn 29 [.ptr 0 0, .ptr 3 0, .ptr 4 0]]] 0 [] [] rfl rfl rfl rfl (unB5 p p.procs[k].body []) (by simp; omega)
 simp only [zs1, zs0] at hB3
 subst hB3
 refine S_of_X EV_ok (by kernel_rfl) ?_
 refine X_rc fun R hR => ?_
 simp only [EVP, aops, astep, awant, aeff, aop, mkD, ev, St.put, ia_fn, zmc, zmn, zg1, zg0, zgd, zmo, if_true, zs1, zs0, zlc, zln, zd0, zt1, zt0, zca, zna, Nat.reduceAdd, Nat.reduceLeDiff, Nat.zero_add, zft, if_false, ty_api_Node, any29, dN_agg, hc3, ty_fN, any29]
 with_reducible refine hR _ ?_
 clear hR R
 show S _ _ _ _ _
 refine S_seq ?_
 have hk1 := keysCa_no (k := 30) (by decide)
 have hs1 := fun fr => sortedCa_eq (A := (visI p [] (cnT p.procs[k].body))) (j := 5) (i := 2) (σ := ⟨fr, [[.slice .imm (if (p.vars.map dV).isEmpty = true then 0 else 3) (p.vars.map dV), .slice .imm (if (p.procs.map dP).isEmpty = true then 0 else 6) (p.procs.map dP), .int .u8 p.main.kind, .int .i64 p.main.num, .str p.main.name, .slice .imm (if (p.main.kids.map dN).isEmpty = true then 0 else 4) (p.main.kids.map dN)], [.int .u8 p.procs[k].body.kind, .int .i64 p.procs[k].body.num, .str p.procs[k].body.name, .slice .imm (if (p.procs[k].body.kids.map dN).isEmpty = true then 0 else 4) (p.procs[k].body.kids.map dN)], iD (visI p [] (cnT p.procs[k].body)), [.mref 2], [.fn 29 [.ptr 0 0, .ptr 3 0, .ptr 4 0]], [.mref 2]], nx3, lv3⟩) rfl rfl
 simp only [sl] at hs1
 refine S_rg ((CaOk.keys).or (CaOk.sorted (A := (visI p [] (cnT p.procs[k].body))) 5 2 (by have h1 := visI_len p (cnT p.procs[k].body) []; have h2 := cnT_len p.procs[k].body; simp only [zln] at h1; omega))) (by kernel_rfl) fun R hR => ?_
 simp only [aops, astep, awant, aeff, aop, mkD, ev, St.put, ia_mref, zmc, zmn, zg1, zg0, zgd, zmo, if_true, zs1, zs0, zlc, zln, zd0, zt1, zt0, zca, zna, Nat.reduceAdd, Nat.reduceLeDiff, Nat.zero_add, zft, if_false, any30, any31, ty_mib, calOr, keysCa_eq, hk1, hs1]
 with_reducible refine hR _ ?_
 clear hR R
 show S _ _ _ _ _
 refine S_ret ?_
 refine ⟨.inr rfl, sl 1 ((sortI (visI p [] (cnT p.procs[k].body))).map dI), ?_, sl_under (map_under (f := dI) (fun _ => rfl) _), sl_strip (map_strip (f := dI) (fun _ => rfl) _)⟩
 simp only [resD, resAll, resOne, resTup, Tryz.results10, zg1, zg0, D.good, if_true, zmo]; try rfl
theorem calls_any (p : Pg) (hs : Sml p) (q : Int) : PContract Tryz.prog 10 [dG p, .int .i64 q] (sl 1 ((clF p q).map dI)) := by
 unfold clF
 by_cases h1 : q < -1
 ·rw [bodyAt_bad p q (.inl h1)]; exact calls_b1 p hs q h1
 by_cases h2 : (p.procs.length : Int) ≤ q
 ·rw [bodyAt_bad p q (.inr h2)]; exact calls_b2 p hs q h1 h2
 by_cases h3 : q = -1
 ·subst h3; exact calls_m p hs
 ·obtain ⟨k, rfl⟩ : ∃ k : Nat, q = (k : Int) := ⟨q.toNat, by omega⟩
  have hk : k < p.procs.length := by omega
  rw [bodyAt_proc p k hk]
  exact calls_k p hs k hk

end Go.Proofs.YtkkhjpkkjpcbmaaGreat
