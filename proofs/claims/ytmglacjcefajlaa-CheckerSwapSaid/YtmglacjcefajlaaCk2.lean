/- The checker over data: reject. -/
import Derived.Test.YtmglacjcefajlaaCk1
namespace Go.Proofs.Ytmglacjcefajlaa
open Go.RowKit

theorem rejT_no {t : Tr} (h : ¬ t.kind = 56 ∧ ¬ t.kind = 40 ∧ ¬ t.kind = 41 ∧ ¬ t.kind = 42 ∧ ¬ t.kind = 43 ∧ ¬ t.kind = 44 ∧ ¬ t.kind = 45 ∧ ¬ t.kind = 46 ∧ ¬ t.kind = 47 ∧ ¬ t.kind = 48 ∧ ¬ t.kind = 49 ∧ ¬ t.kind = 50 ∧ ¬ t.kind = 51 ∧ ¬ t.kind = 52 ∧ ¬ t.kind = 53) : rejT t = (emS, 0) := by
 unfold rejT
 rw [if_neg (by omega), if_neg (by omega), if_neg (by omega), if_neg (by omega), if_neg (by omega), if_neg (by omega), if_neg (by omega), if_neg (by omega)]
theorem cats_len : ∀ (xs : List Nat) (c : List Tr), catsB xs c = true → c.length = xs.length
 | [], [], _ => rfl
 | [], _ :: _, h => by simp [catsB] at h
 | _ :: _, [], h => by simp [catsB] at h
 | x :: xs, t :: ts, h => by
  simp only [catsB, zat] at h
  simp only [zlc, cats_len xs ts h.2]
theorem okN_len {t : Tr} (h : okN t) : (t.kind = 56 ∨ t.kind = 40 ∨ t.kind = 41 ∨ t.kind = 42 ∨ t.kind = 43 → t.kids.length = 2) ∧ (t.kind = 44 ∨ t.kind = 45 ∨ t.kind = 46 ∨ t.kind = 47 ∨ t.kind = 48 ∨ t.kind = 49 → t.kids.length = 1) ∧ (t.kind = 52 ∨ t.kind = 53 → t.kids.length = 4) := by
 rcases h with h | h | h
 ·have := expr_kind h
  exact ⟨fun q => by omega, fun q => by omega, fun q => by omega⟩
 ·obtain ⟨k, n, nm, c⟩ := t
  simp only [Tr.kind, Tr.kids]
  unfold stmtB at h
  repeat' split at h
  all_goals first | (cases h; done) | skip
  all_goals (simp only [zat] at h; have hl := cats_len _ _ h.2; simp only [zlc, zln, List.length_replicate] at hl)
  all_goals exact ⟨fun q => by omega, fun q => by omega, fun q => by omega⟩
 ·have := block_kind h
  exact ⟨fun q => by omega, fun q => by omega, fun q => by omega⟩
theorem okN_item {t : Tr} (h : okN t) : itemOk t := by
 intro hk
 rcases h with h | h | h
 ·obtain ⟨k, n, nm, c⟩ := t
  simp only [Tr.kind] at hk
  subst hk
  unfold exprB at h
  simp [lenB] at h
  simp only [Tr.kids]; omega
 ·have := stmt_kind h; omega
 ·have := block_kind h; omega
theorem okN_kid {t : Tr} (h : okN t) {i : Nat} (hi : i < t.kids.length) : okN (kidN t i) := by
 rw [kidN_eq hi]; exact okN_kids h _ (List.getElem_mem hi)
theorem alias_own (c : List Tr) (nm : List ByteArray) (hc : ∀ x ∈ c, x.size ≤ 1000000 ∧ itemOk x) (hl : c.length ≤ 1000000) (hm : nm.length ≤ 1000000) (hne : nm ≠ []) (s : Nat) (e : TypeId) : fn EV 70 [.slice .imm (if (c.map dN).isEmpty = true then 0 else 4) (c.map dN), .slice (.own s e) 1 (nm.map dS)] = some (.tup [.str (nmE (al2 c nm)).1, .int .i64 (nmE (al2 c nm)).2]) := by
 have hp : ∀ o, plain [sl 4 (c.map dN), .slice o 1 (nm.map dS)] = true := fun o => by
  have h0 : D.under 0 (.slice o 1 (nm.map dS)) = true := by simp only [D.under, unders_id (f := dS) (fun _ _ => rfl)]
  simp only [plain, List.all_cons, List.all_nil, sl_pl (f := dN) dN_under, h0, Bool.and_true, Bool.true_and]; rfl
 have h1 : sl 1 (nm.map dS) = .slice .imm 1 (nm.map dS) := by
  cases nm with
  | nil => exact absurd rfl hne
  | cons a r => rfl
 have := alias_fn c nm hc hl hm
 rw [h1] at this
 rw [← this]
 exact fn_strip (hp _) (hp _) (by simp only [zmc, zmn, D.strip, Own.st, sl])
theorem fc9 (t : Tr) : ∀ m, D.unders m [.int .u8 t.kind, .int .i64 t.num, .str t.name, .slice .imm (if (t.kids.map dN).isEmpty = true then 0 else 4) (t.kids.map dN)] = true := fun m => by have := free1 t _ (List.mem_singleton.2 rfl) m; rwa [dN_cells] at this
theorem fr9 {r : List (List D)} (hfr : Free r) (t u : Tr) : Free ([.int .u8 t.kind, .int .i64 t.num, .str t.name, .slice .imm (if (t.kids.map dN).isEmpty = true then 0 else 4) (t.kids.map dN)] :: (r ++ [[.int .u8 u.kind, .int .i64 u.num, .str u.name, .slice .imm (if (u.kids.map dN).isEmpty = true then 0 else 4) (u.kids.map dN)]])) := fun cs hc m => by
 rcases List.mem_cons.1 hc with rfl | hc
 ·exact fc9 t m
 ·exact Free.snoc hfr (fc9 u) cs hc m
theorem le0n (i : Nat) : (((0 : Nat) : Int) ≤ (i : Int)) = True := eq_true (by omega)
set_option maxRecDepth 100000 in
set_option maxHeartbeats 4000000 in
theorem rej_fn (t : Tr) (hok : okN t) (hs : t.size ≤ 1000000) : fn EV 51 [dN t] = some (.tup [.str (rejT t).1, .int .i64 (rejT t).2]) := by
 have hkl := t.kids_len
 have hkc : ∀ x ∈ t.kids, x.size ≤ 1000000 ∧ itemOk x := fun x hx => ⟨by have := Tr.kid_size hx; omega, okN_item (okN_kids hok x hx)⟩
 refine fn_X rfl Try.func51 rfl (by simp only [plain, List.all_cons, List.all_nil, dN_pl, Bool.and_true]) (rfl) (rfl) (rfl) ?_
 simp only [zmc, zmn, dN_strip]
 simp only [enterSt, Try.ntmps51, zlc, zln, Nat.reduceAdd, Nat.reduceSub, zr1, zr0, zca, zna]
 refine X_seq ?_
 refine X_rg fun R hR => ?_
 simp only [inr_i64, Int.reduceLE, Int.reduceNeg, aops, astep, awant, aeff, aop, ev, ofValue, St.put, zg0, zgd, zmo, if_true, zs1, zs0, zln, zna, and_self, dN_cells, dN_good, sl, emp_ok]
 with_reducible refine hR _ ?_
 clear hR R
 show X _ _ _ _
 refine X_seq ?_
 refine X_seq ?_
 refine X_rg fun R hR => ?_
 simp only [EVP, aops, astep, awant, aeff, aop, mkD, ev, St.put, ia_int, zg1, zg0, zgd, zmo, if_true, zs1, zs0, zlc, zln, zd0, zt1, zt0, Nat.reduceAdd, Nat.reduceLeDiff, Nat.zero_add, Nat.add_zero, zft, if_false, reduceCtorEq, ty_uint8, ty_api_Node]
 with_reducible refine hR _ ?_
 clear hR R
 show X _ _ _ _
 refine X_block ?_
 refine X_seq ?_
 refine X_rg fun R hR => ?_
 simp only [inr_u8, Int.reduceLE, aops, astep, awant, aeff, aop, abin, aint, ev, ofValue, St.put, zg1, zg0, zgd, zmo, if_true, zs1, zs0, and_self]
 with_reducible refine hR _ ?_
 clear hR R
 show X _ _ _ _
 refine X_ite (by simp only [ev, zg1, zg0, zgd]; exact rfl) ?_ ?_
 ·intro b1
  have c1 := b1
  try simp only [beq_iff_eq] at c1
  refine X_seq ?_
  have hlen := (okN_len hok).1 (by first | (simp [*]; done) | omega)
  have hlt0 : 0 < t.kids.length := by omega
  have hn0 := kid_n hlt0
  have he0 := kid_e hlt0
  have hl0 : ((0 : Int) < (t.kids.length : Int)) = True := eq_true (by omega)
  refine X_rg fun R hR => ?_
  simp only [EVP, inr_i64, Int.reduceLE, Int.reduceNeg, aops, astep, awant, aeff, aop, mkD, ev, ofValue, St.put, ia_str, cl_str, ia_slice, zg1, zg0, zgd, zmo, if_true, zs1, zs0, zlm, zlc, zln, zd1, zd0, zt1, zt0, Nat.reduceAdd, Nat.reduceLeDiff, Nat.zero_add, zft, if_false, and_self, reduceCtorEq, zis, ty_string, ty_s_api_Node, ty_api_Node, und_api_Node, siz_api_Node, inf_api_Node_eq, sl, b1, hn0, he0, hl0, Int.toNat_zero, dN_eq (kidN t 0)]
  with_reducible refine hR _ ?_
  clear hR R
  show X _ _ _ _
  refine X_ret ?_
  show resD _ _ _ = some _
  simp only [resD, resAll, resOne, resTup, Try.results51, EVP, zg1, zg0, D.good, if_true, zmo] <;> (first | (simp [rejT, c1]; rfl; done) | (simp [rejT, c1]; done) | (simp [rejT, c1, hf.out, dup_y hlt (by assumption), nmE]; done) | (simp [rejT, c1, hf.out, show t.kids.length - i = 0 from by omega, dupN, nmE]; rfl; done) | (unfold rejT; rw [if_neg (by omega), if_pos (by omega)]; simp [c1]; done) | (unfold rejT; rw [if_neg (by omega), if_pos (by omega)]; simp [c1]; rfl; done) | (unfold rejT; rw [if_neg (by omega), if_neg (by omega), if_neg (by omega), if_pos (by omega)]; simp [c1]; done) | (unfold rejT; rw [if_neg (by omega), if_neg (by omega), if_neg (by omega), if_neg (by omega), if_pos (by omega)]; simp [c1]; done) | (unfold rejT; rw [if_neg (by omega), if_neg (by omega), if_neg (by omega), if_neg (by omega), if_neg (by omega), if_pos (by omega), hf.out, dup_y hlt (by assumption)]; rfl; done) | (unfold rejT; rw [if_neg (by omega), if_neg (by omega), if_neg (by omega), if_neg (by omega), if_neg (by omega), if_pos (by omega), hf.out, show t.kids.length - i = 0 from by omega]; rfl; done) | (rw [rejT_no (by omega)]; rfl; done) | (exfalso; simp_all; done))
 ·intro b2
  have c2 := b2
  try simp only [ne_eq, beq_eq_false_iff_ne] at c2
  refine X_seqJ (fun σ => ∃ (g18 : Bool), σ = ⟨[slotOf σ 0, .ptr 0 0, slotOf σ 2, slotOf σ 3, slotOf σ 4, slotOf σ 5, slotOf σ 6, slotOf σ 7, slotOf σ 8, slotOf σ 9, .int .u8 t.kind, slotOf σ 11, slotOf σ 12, slotOf σ 13, slotOf σ 14, slotOf σ 15, slotOf σ 16, slotOf σ 17, .bool g18, slotOf σ 19, slotOf σ 20, slotOf σ 21, slotOf σ 22, slotOf σ 23, slotOf σ 24, slotOf σ 25, slotOf σ 26, slotOf σ 27, slotOf σ 28, slotOf σ 29, slotOf σ 30, slotOf σ 31, slotOf σ 32, slotOf σ 33, slotOf σ 34, slotOf σ 35, slotOf σ 36, slotOf σ 37, slotOf σ 38, slotOf σ 39, slotOf σ 40, slotOf σ 41, slotOf σ 42, slotOf σ 43, slotOf σ 44, slotOf σ 45, slotOf σ 46, slotOf σ 47, slotOf σ 48, slotOf σ 49, slotOf σ 50, slotOf σ 51, slotOf σ 52, slotOf σ 53, slotOf σ 54, slotOf σ 55, slotOf σ 56, slotOf σ 57, slotOf σ 58, slotOf σ 59, slotOf σ 60, slotOf σ 61, slotOf σ 62, slotOf σ 63, slotOf σ 64, slotOf σ 65, slotOf σ 66, slotOf σ 67, slotOf σ 68, slotOf σ 69, slotOf σ 70, slotOf σ 71, slotOf σ 72, slotOf σ 73, slotOf σ 74, slotOf σ 75, slotOf σ 76, slotOf σ 77, slotOf σ 78, slotOf σ 79, slotOf σ 80, slotOf σ 81, slotOf σ 82, slotOf σ 83, slotOf σ 84, slotOf σ 85, slotOf σ 86, slotOf σ 87, slotOf σ 88, slotOf σ 89, slotOf σ 90, slotOf σ 91, slotOf σ 92, slotOf σ 93, slotOf σ 94, slotOf σ 95, slotOf σ 96, slotOf σ 97, slotOf σ 98, slotOf σ 99, slotOf σ 100, slotOf σ 101, slotOf σ 102, slotOf σ 103, slotOf σ 104, slotOf σ 105, slotOf σ 106, slotOf σ 107, slotOf σ 108, slotOf σ 109, slotOf σ 110, slotOf σ 111, slotOf σ 112, slotOf σ 113, slotOf σ 114, slotOf σ 115, slotOf σ 116, slotOf σ 117, slotOf σ 118, slotOf σ 119, slotOf σ 120, slotOf σ 121, slotOf σ 122, slotOf σ 123, slotOf σ 124, slotOf σ 125, slotOf σ 126, slotOf σ 127, slotOf σ 128, slotOf σ 129, slotOf σ 130, slotOf σ 131, slotOf σ 132, slotOf σ 133, slotOf σ 134, slotOf σ 135], [[.int .u8 t.kind, .int .i64 t.num, .str t.name, .slice .imm (if (t.kids.map dN).isEmpty = true then 0 else 4) (t.kids.map dN)]], 0, []⟩ ∧ g18 = decide (t.kind = 40 ∨ t.kind = 41 ∨ t.kind = 42)) ?_ ?_
  ·skip
   refine X_seq ?_
   refine X_rg fun R hR => ?_
   simp only [inr_u8, Int.reduceLE, aops, astep, awant, aeff, aop, abin, aint, ev, ofValue, St.put, zg1, zg0, zgd, zmo, if_true, zs1, zs0, and_self, b2]
   with_reducible refine hR _ ?_
   clear hR R
   show X _ _ _ _
   refine X_ite (by simp only [ev, zg1, zg0, zgd]; exact rfl) ?_ ?_
   ·intro b3
    have c3 := b3
    try simp only [beq_iff_eq] at c3
    refine X_skip ?_
    exact ⟨_, rfl, by first | (simp [c3]; done) | (simp [c2, c3]; rfl)⟩
   ·intro b4
    have c4 := b4
    try simp only [ne_eq, beq_eq_false_iff_ne] at c4
    refine X_seq ?_
    refine X_rg fun R hR => ?_
    simp only [inr_u8, Int.reduceLE, aops, astep, awant, aeff, aop, abin, aint, ev, ofValue, St.put, zg1, zg0, zgd, zmo, if_true, zs1, zs0, and_self, b4]
    with_reducible refine hR _ ?_
    clear hR R
    show X _ _ _ _
    refine X_ite (by simp only [ev, zg1, zg0, zgd]; exact rfl) ?_ ?_
    ·intro b5
     have c5 := b5
     try simp only [beq_iff_eq] at c5
     refine X_skip ?_
     exact ⟨_, rfl, by first | (simp [c5]; done) | (simp [c2, c4, c5]; rfl)⟩
    ·intro b6
     have c6 := b6
     try simp only [ne_eq, beq_eq_false_iff_ne] at c6
     refine X_rg fun R hR => ?_
     simp only [inr_u8, Int.reduceLE, aops, astep, awant, aeff, aop, abin, aint, ev, ofValue, St.put, zg1, zg0, zgd, zmo, if_true, zs1, zs0, and_self, b6]
     with_reducible refine hR _ ?_
     clear hR R
     exact ⟨_, rfl, by first | (simp [c4, c6]; done) | (simp [c4, c6]; rfl)⟩
  ·skip
   rintro σ ⟨g18, hσ, hg18⟩
   generalize slotOf σ = x at hσ
   subst hσ
   refine X_ite (by simp only [ev, zg1, zg0, zgd]; exact rfl) ?_ ?_
   ·intro b7
    have c7 := b7
    try simp only [znt, znf, decide_eq_true_eq, decide_eq_false_iff_not, beq_iff_eq, Int.not_lt, Int.not_le, ge_iff_le, gt_iff_lt, bne_iff_ne, ne_eq, bne_eq_false_iff_eq, beq_eq_false_iff_ne, zat, zof] at c7
    have hk18 := of_decide_eq_true (hg18.symm.trans b7)
    refine X_seq ?_
    have hlen := (okN_len hok).1 (by first | (simp [*]; done) | omega)
    have hlt0 : 0 < t.kids.length := by omega
    have hn0 := kid_n hlt0
    have he0 := kid_e hlt0
    have hl0 : ((0 : Int) < (t.kids.length : Int)) = True := eq_true (by omega)
    refine X_rg fun R hR => ?_
    simp only [EVP, inr_i64, Int.reduceLE, Int.reduceNeg, aops, astep, awant, aeff, aop, mkD, ev, ofValue, St.put, ia_str, cl_str, ia_slice, zg1, zg0, zgd, zmo, if_true, zs1, zs0, zlm, zlc, zln, zd1, zd0, zt1, zt0, Nat.reduceAdd, Nat.reduceLeDiff, Nat.zero_add, zft, if_false, and_self, reduceCtorEq, zis, ty_string, ty_s_api_Node, ty_api_Node, und_api_Node, siz_api_Node, inf_api_Node_eq, sl, b7, hn0, he0, hl0, Int.toNat_zero, dN_eq (kidN t 0)]
    with_reducible refine hR _ ?_
    clear hR R
    show X _ _ _ _
    refine X_seq ?_
    have hlen := (okN_len hok).1 (by first | (simp [*]; done) | omega)
    have hlt0 : 0 < t.kids.length := by omega
    have hn0 := kid_n hlt0
    have he0 := kid_e hlt0
    have hl0 : ((0 : Int) < (t.kids.length : Int)) = True := eq_true (by omega)
    have hlt1 : 1 < t.kids.length := by omega
    have hn1 := kid_n hlt1
    have he1 := kid_e hlt1
    have hl1 : ((1 : Int) < (t.kids.length : Int)) = True := eq_true (by omega)
    have hz0 := kidN_size (i := 0) hs
    have hi0 := okN_item (okN_kid hok hlt0)
    have hI := idx_fn (kidN t 0).name (kidN t 0) hz0 hi0
    have hM := ment_fn (kidN t 0).name (kidN t 1) (kidN_size hs)
    refine X_y ?_
    refine Y_k 7 fun R hR => ?_
    simp only [EVP, inr_i64, Int.reduceLE, Int.reduceNeg, aops, astep, awant, aeff, aop, mkD, ev, ofValue, St.put, pcall, ia_slice, zmc, zmn, zg1, zg0, zgd, zmo, if_true, zs1, zs0, zlm, zlc, zln, zd1, zd0, zt1, zt0, zca, zna, Nat.reduceAdd, Nat.reduceLeDiff, Nat.zero_add, zft, if_false, and_self, reduceCtorEq, zis, ty_s_api_Node, ty_api_Node, und_api_Node, siz_api_Node, inf_api_Node_eq, any68, dN_agg, dN_cells, dN_isAgg, sl, hn0, he0, hl0, Int.toNat_zero, hI]
    with_reducible refine hR _ ?_
    clear hR R
    simp only [zd1, zd0]
    refine Y_if 33 (by simp only [ev, zg1, zg0, zgd]; exact rfl) ?_ ?_
    ·intro b8
     have c8 := b8
     try simp only [znt, znf, decide_eq_true_eq, decide_eq_false_iff_not, beq_iff_eq, Int.not_lt, Int.not_le, ge_iff_le, gt_iff_lt, bne_iff_ne, ne_eq, bne_eq_false_iff_eq, beq_eq_false_iff_ne, zat, zof] at c8
     refine Y_end fun R hR => ?_
     simp only [EVP, aops, astep, awant, aeff, aop, ev, ofValue, St.put, pcall, zmc, zmn, zg1, zg0, zgd, zmo, Option.map_none, zbs, if_true, zs1, zs0, zca, zna, Nat.zero_add, zft, if_false, reduceCtorEq, bq_tf, ty_s_api_Node, ty_api_Node, und_api_Node, any69, b8]
     with_reducible refine hR _ ?_
     clear hR R
     show X _ _ _ _
     refine X_true (by simp only [ev, zg1, zg0, zgd]) ?_
     refine X_seq ?_
     refine X_rg fun R hR => ?_
     simp only [inr_i64, Int.reduceLE, Int.reduceNeg, aops, astep, awant, aeff, aop, ev, ofValue, St.put, zg1, zg0, zgd, zmo, if_true, zs1, zs0, and_self]
     with_reducible refine hR _ ?_
     clear hR R
     show X _ _ _ _
     refine X_ret ?_
     show resD _ _ _ = some _
     simp only [resD, resAll, resOne, resTup, Try.results51, EVP, zg1, zg0, D.good, if_true, zmo] <;> (first | (simp [rejT, c2, c8, hk18]; rfl; done) | (simp [rejT, c2, c8, hk18]; done) | (simp [rejT, c2, c7, c8, hk18, hf.out, dup_y hlt (by assumption), nmE]; done) | (simp [rejT, c2, c7, c8, hk18, hf.out, show t.kids.length - i = 0 from by omega, dupN, nmE]; rfl; done) | (unfold rejT; rw [if_neg (by omega), if_pos (by omega)]; simp [c2, c7, c8, hk18]; done) | (unfold rejT; rw [if_neg (by omega), if_pos (by omega)]; simp [c2, c7, c8, hk18]; rfl; done) | (unfold rejT; rw [if_neg (by omega), if_neg (by omega), if_neg (by omega), if_pos (by omega)]; simp [c2, c7, c8, hk18]; done) | (unfold rejT; rw [if_neg (by omega), if_neg (by omega), if_neg (by omega), if_neg (by omega), if_pos (by omega)]; simp [c2, c7, c8, hk18]; done) | (unfold rejT; rw [if_neg (by omega), if_neg (by omega), if_neg (by omega), if_neg (by omega), if_neg (by omega), if_pos (by omega), hf.out, dup_y hlt (by assumption)]; rfl; done) | (unfold rejT; rw [if_neg (by omega), if_neg (by omega), if_neg (by omega), if_neg (by omega), if_neg (by omega), if_pos (by omega), hf.out, show t.kids.length - i = 0 from by omega]; rfl; done) | (rw [rejT_no (by omega)]; rfl; done) | (exfalso; simp_all; done))
    ·intro b9
     have c9 := b9
     try simp only [znt, znf, decide_eq_true_eq, decide_eq_false_iff_not, beq_iff_eq, Int.not_lt, Int.not_le, ge_iff_le, gt_iff_lt, bne_iff_ne, ne_eq, bne_eq_false_iff_eq, beq_eq_false_iff_ne, zat, zof] at c9
     refine Y_end fun R hR => ?_
     simp only [EVP, inr_i64, Int.reduceLE, Int.reduceNeg, aops, astep, awant, aeff, aop, mkD, ev, ofValue, St.put, pcall, ia_slice, zmc, zmn, zg1, zg0, zgd, zmo, zbs, if_true, zs1, zs0, zlm, zlc, zln, zd1, zd0, zt1, zt0, zca, zna, Nat.reduceAdd, Nat.reduceLeDiff, Nat.zero_add, zft, if_false, and_self, reduceCtorEq, beq_self_eq_true, zis, ty_s_api_Node, ty_api_Node, und_api_Node, siz_api_Node, inf_api_Node_eq, any69, dN_cells, dN_isAgg, sl, b9, hn0, he1, hl1, Int.toNat_one, hM]
     with_reducible refine hR _ ?_
     clear hR R
     show X _ _ _ _
     refine X_ite (by simp only [ev, zg1, zg0, zgd]; exact rfl) ?_ ?_
     ·intro b10
      have c10 := b10
      try simp only [znt, znf, decide_eq_true_eq, decide_eq_false_iff_not, beq_iff_eq, Int.not_lt, Int.not_le, ge_iff_le, gt_iff_lt, bne_iff_ne, ne_eq, bne_eq_false_iff_eq, beq_eq_false_iff_ne, zat, zof] at c10
      refine X_seq ?_
      refine X_rg fun R hR => ?_
      simp only [inr_i64, Int.reduceLE, Int.reduceNeg, aops, astep, awant, aeff, aop, ev, ofValue, St.put, zg1, zg0, zgd, zmo, if_true, zs1, zs0, and_self, b10]
      with_reducible refine hR _ ?_
      clear hR R
      show X _ _ _ _
      refine X_ret ?_
      show resD _ _ _ = some _
      simp only [resD, resAll, resOne, resTup, Try.results51, EVP, zg1, zg0, D.good, if_true, zmo] <;> (first | (simp [rejT, c2, c9, c10, hk18]; rfl; done) | (simp [rejT, c2, c9, c10, hk18]; done) | (simp [rejT, c2, c7, c9, c10, hk18, hf.out, dup_y hlt (by assumption), nmE]; done) | (simp [rejT, c2, c7, c9, c10, hk18, hf.out, show t.kids.length - i = 0 from by omega, dupN, nmE]; rfl; done) | (unfold rejT; rw [if_neg (by omega), if_pos (by omega)]; simp [c2, c7, c9, c10, hk18]; done) | (unfold rejT; rw [if_neg (by omega), if_pos (by omega)]; simp [c2, c7, c9, c10, hk18]; rfl; done) | (unfold rejT; rw [if_neg (by omega), if_neg (by omega), if_neg (by omega), if_pos (by omega)]; simp [c2, c7, c9, c10, hk18]; done) | (unfold rejT; rw [if_neg (by omega), if_neg (by omega), if_neg (by omega), if_neg (by omega), if_pos (by omega)]; simp [c2, c7, c9, c10, hk18]; done) | (unfold rejT; rw [if_neg (by omega), if_neg (by omega), if_neg (by omega), if_neg (by omega), if_neg (by omega), if_pos (by omega), hf.out, dup_y hlt (by assumption)]; rfl; done) | (unfold rejT; rw [if_neg (by omega), if_neg (by omega), if_neg (by omega), if_neg (by omega), if_neg (by omega), if_pos (by omega), hf.out, show t.kids.length - i = 0 from by omega]; rfl; done) | (rw [rejT_no (by omega)]; rfl; done) | (exfalso; simp_all; done))
     ·intro b11
      have c11 := b11
      try simp only [znt, znf, decide_eq_true_eq, decide_eq_false_iff_not, beq_iff_eq, Int.not_lt, Int.not_le, ge_iff_le, gt_iff_lt, bne_iff_ne, ne_eq, bne_eq_false_iff_eq, beq_eq_false_iff_ne, zat, zof] at c11
      refine X_skip ?_
      show X _ _ _ _
      refine X_seq ?_
      refine X_rg fun R hR => ?_
      simp only [inr_i64, Int.reduceLE, Int.reduceNeg, aops, astep, awant, aeff, aop, ev, ofValue, St.put, zgd, zmo, if_true, zs1, zs0, and_self, emp_ok, b11]
      with_reducible refine hR _ ?_
      clear hR R
      show X _ _ _ _
      refine X_ret ?_
      show resD _ _ _ = some _
      simp only [resD, resAll, resOne, resTup, Try.results51, EVP, zg1, zg0, D.good, if_true, zmo] <;> (first | (simp [rejT, c2, c9, c11, hk18]; rfl; done) | (simp [rejT, c2, c7, c9, c11, hk18]; done) | (simp [rejT, c2, c7, c9, c11, hk18, hf.out, dup_y hlt (by assumption), nmE]; done) | (simp [rejT, c2, c7, c9, c11, hk18, hf.out, show t.kids.length - i = 0 from by omega, dupN, nmE]; rfl; done) | (unfold rejT; rw [if_neg (by omega), if_pos (by omega)]; simp [c2, c7, c9, c11, hk18]; done) | (unfold rejT; rw [if_neg (by omega), if_pos (by omega)]; simp [c2, c7, c9, c11, hk18]; rfl; done) | (unfold rejT; rw [if_neg (by omega), if_neg (by omega), if_neg (by omega), if_pos (by omega)]; simp [c2, c7, c9, c11, hk18]; done) | (unfold rejT; rw [if_neg (by omega), if_neg (by omega), if_neg (by omega), if_neg (by omega), if_pos (by omega)]; simp [c2, c7, c9, c11, hk18]; done) | (unfold rejT; rw [if_neg (by omega), if_neg (by omega), if_neg (by omega), if_neg (by omega), if_neg (by omega), if_pos (by omega), hf.out, dup_y hlt (by assumption)]; rfl; done) | (unfold rejT; rw [if_neg (by omega), if_neg (by omega), if_neg (by omega), if_neg (by omega), if_neg (by omega), if_pos (by omega), hf.out, show t.kids.length - i = 0 from by omega]; rfl; done) | (rw [rejT_no (by omega)]; rfl; done) | (exfalso; simp_all; done))
   ·intro b12
    have c12 := b12
    try simp only [znt, znf, decide_eq_true_eq, decide_eq_false_iff_not, beq_iff_eq, Int.not_lt, Int.not_le, ge_iff_le, gt_iff_lt, bne_iff_ne, ne_eq, bne_eq_false_iff_eq, beq_eq_false_iff_ne, zat, zof] at c12
    have hn18 := of_decide_eq_false (hg18.symm.trans b12)
    refine X_seq ?_
    refine X_rg fun R hR => ?_
    simp only [inr_u8, Int.reduceLE, aops, astep, awant, aeff, aop, abin, aint, ev, ofValue, St.put, zg1, zg0, zgd, zmo, if_true, zs1, zs0, and_self, b12]
    with_reducible refine hR _ ?_
    clear hR R
    show X _ _ _ _
    refine X_ite (by simp only [ev, zg1, zg0, zgd]; exact rfl) ?_ ?_
    ·intro b13
     have c13 := b13
     try simp only [beq_iff_eq] at c13
     refine X_seq ?_
     have hlen := (okN_len hok).1 (by first | (simp [*]; done) | omega)
     have hlt0 : 0 < t.kids.length := by omega
     have hn0 := kid_n hlt0
     have he0 := kid_e hlt0
     have hl0 : ((0 : Int) < (t.kids.length : Int)) = True := eq_true (by omega)
     have hlt1 : 1 < t.kids.length := by omega
     have hn1 := kid_n hlt1
     have he1 := kid_e hlt1
     have hl1 : ((1 : Int) < (t.kids.length : Int)) = True := eq_true (by omega)
     refine X_rg fun R hR => ?_
     simp only [EVP, inr_i64, Int.reduceLE, Int.reduceNeg, aops, astep, awant, aeff, aop, mkD, astore, ev, ofValue, St.put, ia_slice, zg1, zg0, zgd, zmo, zbs, if_true, zs1, zs0, zlm, zlc, zln, zd1, zd0, zt1, zt0, zca, zna, Nat.reduceAdd, Nat.reduceLeDiff, Nat.zero_add, zft, if_false, and_self, reduceCtorEq, zis, ty_s_api_Node, ty_api_Node, und_api_Node, siz_api_Node, inf_api_Node_eq, dN_cells, dN_isAgg, dN_good, sl, b13, hn0, he0, hl0, he1, hl1, Int.toNat_zero, Int.toNat_one]
     with_reducible refine hR _ ?_
     clear hR R
     show X _ _ _ _
     refine X_seq ?_
     have hA := alias_own t.kids [(kidN t 0).name, (kidN t 1).name] hkc (by omega) (by simp) (by simp) 0 9
     simp only [zmc, zmn, dS] at hA
     refine X_rg fun R hR => ?_
     simp only [EVP, aops, astep, awant, aeff, aop, mkD, abuild, ev, ofValue, St.put, pcall, gd_str, ia_str, cl_str, ia_slice, zmc, zmn, zg1, zg0, zgd, zmo, if_true, zs1, zs0, zlc, zln, zd1, zd0, zt1, zt0, zca, zna, Nat.reduceAdd, Nat.reduceLeDiff, Nat.reduceLT, Nat.zero_add, Bool.and_true, zft, if_false, and_self, reduceCtorEq, List.all_cons, List.all_nil, beq_self_eq_true, Nat.reduceMul, rng_2, ty_string, ty_s_api_Node, ty_api_Node, und_string, inf_string_eq, inf_string_size, inf_string_zero, any70, hA]
     with_reducible refine hR _ ?_
     clear hR R
     show X _ _ _ _
     refine X_ret ?_
     show resD _ _ _ = some _
     simp only [resD, resAll, resOne, resTup, Try.results51, EVP, zg1, zg0, D.good, if_true, zmo] <;> (first | (simp [rejT, c13]; rfl; done) | (simp [rejT, c13]; done) | (simp [rejT, c2, c12, c13, hn18, hf.out, dup_y hlt (by assumption), nmE]; done) | (simp [rejT, c2, c12, c13, hn18, hf.out, show t.kids.length - i = 0 from by omega, dupN, nmE]; rfl; done) | (unfold rejT; rw [if_neg (by omega), if_pos (by omega)]; simp [c2, c12, c13, hn18]; done) | (unfold rejT; rw [if_neg (by omega), if_pos (by omega)]; simp [c2, c12, c13, hn18]; rfl; done) | (unfold rejT; rw [if_neg (by omega), if_neg (by omega), if_neg (by omega), if_pos (by omega)]; simp [c2, c12, c13, hn18]; done) | (unfold rejT; rw [if_neg (by omega), if_neg (by omega), if_neg (by omega), if_neg (by omega), if_pos (by omega)]; simp [c2, c12, c13, hn18]; done) | (unfold rejT; rw [if_neg (by omega), if_neg (by omega), if_neg (by omega), if_neg (by omega), if_neg (by omega), if_pos (by omega), hf.out, dup_y hlt (by assumption)]; rfl; done) | (unfold rejT; rw [if_neg (by omega), if_neg (by omega), if_neg (by omega), if_neg (by omega), if_neg (by omega), if_pos (by omega), hf.out, show t.kids.length - i = 0 from by omega]; rfl; done) | (rw [rejT_no (by omega)]; rfl; done) | (exfalso; simp_all; done))
    ·intro b14
     have c14 := b14
     try simp only [ne_eq, beq_eq_false_iff_ne] at c14
     refine X_seqJ (fun σ => ∃ (g62 : Bool), σ = ⟨[slotOf σ 0, .ptr 0 0, slotOf σ 2, slotOf σ 3, slotOf σ 4, slotOf σ 5, slotOf σ 6, slotOf σ 7, slotOf σ 8, slotOf σ 9, .int .u8 t.kind, slotOf σ 11, slotOf σ 12, slotOf σ 13, slotOf σ 14, slotOf σ 15, slotOf σ 16, slotOf σ 17, slotOf σ 18, slotOf σ 19, slotOf σ 20, slotOf σ 21, slotOf σ 22, slotOf σ 23, slotOf σ 24, slotOf σ 25, slotOf σ 26, slotOf σ 27, slotOf σ 28, slotOf σ 29, slotOf σ 30, slotOf σ 31, slotOf σ 32, slotOf σ 33, slotOf σ 34, slotOf σ 35, slotOf σ 36, slotOf σ 37, slotOf σ 38, slotOf σ 39, slotOf σ 40, slotOf σ 41, slotOf σ 42, slotOf σ 43, slotOf σ 44, slotOf σ 45, slotOf σ 46, slotOf σ 47, slotOf σ 48, slotOf σ 49, slotOf σ 50, slotOf σ 51, slotOf σ 52, slotOf σ 53, slotOf σ 54, slotOf σ 55, slotOf σ 56, slotOf σ 57, slotOf σ 58, slotOf σ 59, slotOf σ 60, slotOf σ 61, .bool g62, slotOf σ 63, slotOf σ 64, slotOf σ 65, slotOf σ 66, slotOf σ 67, slotOf σ 68, slotOf σ 69, slotOf σ 70, slotOf σ 71, slotOf σ 72, slotOf σ 73, slotOf σ 74, slotOf σ 75, slotOf σ 76, slotOf σ 77, slotOf σ 78, slotOf σ 79, slotOf σ 80, slotOf σ 81, slotOf σ 82, slotOf σ 83, slotOf σ 84, slotOf σ 85, slotOf σ 86, slotOf σ 87, slotOf σ 88, slotOf σ 89, slotOf σ 90, slotOf σ 91, slotOf σ 92, slotOf σ 93, slotOf σ 94, slotOf σ 95, slotOf σ 96, slotOf σ 97, slotOf σ 98, slotOf σ 99, slotOf σ 100, slotOf σ 101, slotOf σ 102, slotOf σ 103, slotOf σ 104, slotOf σ 105, slotOf σ 106, slotOf σ 107, slotOf σ 108, slotOf σ 109, slotOf σ 110, slotOf σ 111, slotOf σ 112, slotOf σ 113, slotOf σ 114, slotOf σ 115, slotOf σ 116, slotOf σ 117, slotOf σ 118, slotOf σ 119, slotOf σ 120, slotOf σ 121, slotOf σ 122, slotOf σ 123, slotOf σ 124, slotOf σ 125, slotOf σ 126, slotOf σ 127, slotOf σ 128, slotOf σ 129, slotOf σ 130, slotOf σ 131, slotOf σ 132, slotOf σ 133, slotOf σ 134, slotOf σ 135], [[.int .u8 t.kind, .int .i64 t.num, .str t.name, .slice .imm (if (t.kids.map dN).isEmpty = true then 0 else 4) (t.kids.map dN)]], 0, []⟩ ∧ g62 = decide (t.kind = 44 ∨ t.kind = 45)) ?_ ?_
     ·skip
      refine X_seq ?_
      refine X_rg fun R hR => ?_
      simp only [inr_u8, Int.reduceLE, aops, astep, awant, aeff, aop, abin, aint, ev, ofValue, St.put, zg1, zg0, zgd, zmo, if_true, zs1, zs0, and_self, b14]
      with_reducible refine hR _ ?_
      clear hR R
      show X _ _ _ _
      refine X_ite (by simp only [ev, zg1, zg0, zgd]; exact rfl) ?_ ?_
      ·intro b15
       have c15 := b15
       try simp only [beq_iff_eq] at c15
       refine X_skip ?_
       exact ⟨_, rfl, by first | (simp [c15]; done) | (simp [c2, c12, c14, c15]; rfl)⟩
      ·intro b16
       have c16 := b16
       try simp only [ne_eq, beq_eq_false_iff_ne] at c16
       refine X_rg fun R hR => ?_
       simp only [inr_u8, Int.reduceLE, aops, astep, awant, aeff, aop, abin, aint, ev, ofValue, St.put, zg1, zg0, zgd, zmo, if_true, zs1, zs0, and_self, b16]
       with_reducible refine hR _ ?_
       clear hR R
       exact ⟨_, rfl, by first | (simp [c16]; done) | (simp [c16]; rfl)⟩
     ·skip
      rintro σ ⟨g62, hσ, hg62⟩
      generalize slotOf σ = x at hσ
      subst hσ
      refine X_ite (by simp only [ev, zg1, zg0, zgd]; exact rfl) ?_ ?_
      ·intro b17
       have c17 := b17
       try simp only [znt, znf, decide_eq_true_eq, decide_eq_false_iff_not, beq_iff_eq, Int.not_lt, Int.not_le, ge_iff_le, gt_iff_lt, bne_iff_ne, ne_eq, bne_eq_false_iff_eq, beq_eq_false_iff_ne, zat, zof] at c17
       have hk62 := of_decide_eq_true (hg62.symm.trans b17)
       refine X_seq ?_
       have hlen := (okN_len hok).2.1 (by first | (simp [*]; done) | omega)
       have hlt0 : 0 < t.kids.length := by omega
       have hn0 := kid_n hlt0
       have he0 := kid_e hlt0
       have hl0 : ((0 : Int) < (t.kids.length : Int)) = True := eq_true (by omega)
       have hA := alias_own t.kids [(kidN t 0).name, t.name] hkc (by omega) (by simp) (by simp) 0 9
       simp only [zmc, zmn, dS] at hA
       refine X_rg fun R hR => ?_
       simp only [EVP, inr_i64, Int.reduceLE, Int.reduceNeg, aops, astep, awant, aeff, aop, mkD, abuild, ev, ofValue, St.put, pcall, gd_str, ia_str, cl_str, ia_slice, zmc, zmn, zg1, zg0, zgd, zmo, if_true, zs1, zs0, zlm, zlc, zln, zd1, zd0, zt1, zt0, zca, zna, Nat.reduceAdd, Nat.reduceLeDiff, Nat.reduceLT, Nat.zero_add, Bool.and_true, zft, if_false, and_self, reduceCtorEq, List.all_cons, List.all_nil, beq_self_eq_true, zis, Nat.reduceMul, rng_2, ty_string, ty_s_api_Node, ty_api_Node, und_api_Node, siz_api_Node, inf_api_Node_eq, und_string, inf_string_eq, inf_string_size, inf_string_zero, any70, sl, b17, hn0, he0, hl0, Int.toNat_zero, dN_eq (kidN t 0), hA]
       with_reducible refine hR _ ?_
       clear hR R
       show X _ _ _ _
       refine X_ret ?_
       show resD _ _ _ = some _
       simp only [resD, resAll, resOne, resTup, Try.results51, EVP, zg1, zg0, D.good, if_true, zmo] <;> (first | (simp [rejT, c2, c14, hn18, hk62]; rfl; done) | (simp [rejT, c2, c14, hn18, hk62]; done) | (simp [rejT, c2, c12, c14, c17, hn18, hk62, hf.out, dup_y hlt (by assumption), nmE]; done) | (simp [rejT, c2, c12, c14, c17, hn18, hk62, hf.out, show t.kids.length - i = 0 from by omega, dupN, nmE]; rfl; done) | (unfold rejT; rw [if_neg (by omega), if_pos (by omega)]; simp [c2, c12, c14, c17, hn18, hk62]; done) | (unfold rejT; rw [if_neg (by omega), if_pos (by omega)]; simp [c2, c12, c14, c17, hn18, hk62]; rfl; done) | (unfold rejT; rw [if_neg (by omega), if_neg (by omega), if_neg (by omega), if_pos (by omega)]; simp [c2, c12, c14, c17, hn18, hk62]; done) | (unfold rejT; rw [if_neg (by omega), if_neg (by omega), if_neg (by omega), if_neg (by omega), if_pos (by omega)]; simp [c2, c12, c14, c17, hn18, hk62]; done) | (unfold rejT; rw [if_neg (by omega), if_neg (by omega), if_neg (by omega), if_neg (by omega), if_neg (by omega), if_pos (by omega), hf.out, dup_y hlt (by assumption)]; rfl; done) | (unfold rejT; rw [if_neg (by omega), if_neg (by omega), if_neg (by omega), if_neg (by omega), if_neg (by omega), if_pos (by omega), hf.out, show t.kids.length - i = 0 from by omega]; rfl; done) | (rw [rejT_no (by omega)]; rfl; done) | (exfalso; simp_all; done))
      ·intro b18
       have c18 := b18
       try simp only [znt, znf, decide_eq_true_eq, decide_eq_false_iff_not, beq_iff_eq, Int.not_lt, Int.not_le, ge_iff_le, gt_iff_lt, bne_iff_ne, ne_eq, bne_eq_false_iff_eq, beq_eq_false_iff_ne, zat, zof] at c18
       have hn62 := of_decide_eq_false (hg62.symm.trans b18)
       refine X_seqJ (fun σ => ∃ (g78 : Bool), σ = ⟨[slotOf σ 0, .ptr 0 0, slotOf σ 2, slotOf σ 3, slotOf σ 4, slotOf σ 5, slotOf σ 6, slotOf σ 7, slotOf σ 8, slotOf σ 9, .int .u8 t.kind, slotOf σ 11, slotOf σ 12, slotOf σ 13, slotOf σ 14, slotOf σ 15, slotOf σ 16, slotOf σ 17, slotOf σ 18, slotOf σ 19, slotOf σ 20, slotOf σ 21, slotOf σ 22, slotOf σ 23, slotOf σ 24, slotOf σ 25, slotOf σ 26, slotOf σ 27, slotOf σ 28, slotOf σ 29, slotOf σ 30, slotOf σ 31, slotOf σ 32, slotOf σ 33, slotOf σ 34, slotOf σ 35, slotOf σ 36, slotOf σ 37, slotOf σ 38, slotOf σ 39, slotOf σ 40, slotOf σ 41, slotOf σ 42, slotOf σ 43, slotOf σ 44, slotOf σ 45, slotOf σ 46, slotOf σ 47, slotOf σ 48, slotOf σ 49, slotOf σ 50, slotOf σ 51, slotOf σ 52, slotOf σ 53, slotOf σ 54, slotOf σ 55, slotOf σ 56, slotOf σ 57, slotOf σ 58, slotOf σ 59, slotOf σ 60, slotOf σ 61, slotOf σ 62, slotOf σ 63, slotOf σ 64, slotOf σ 65, slotOf σ 66, slotOf σ 67, slotOf σ 68, slotOf σ 69, slotOf σ 70, slotOf σ 71, slotOf σ 72, slotOf σ 73, slotOf σ 74, slotOf σ 75, slotOf σ 76, slotOf σ 77, .bool g78, slotOf σ 79, slotOf σ 80, slotOf σ 81, slotOf σ 82, slotOf σ 83, slotOf σ 84, slotOf σ 85, slotOf σ 86, slotOf σ 87, slotOf σ 88, slotOf σ 89, slotOf σ 90, slotOf σ 91, slotOf σ 92, slotOf σ 93, slotOf σ 94, slotOf σ 95, slotOf σ 96, slotOf σ 97, slotOf σ 98, slotOf σ 99, slotOf σ 100, slotOf σ 101, slotOf σ 102, slotOf σ 103, slotOf σ 104, slotOf σ 105, slotOf σ 106, slotOf σ 107, slotOf σ 108, slotOf σ 109, slotOf σ 110, slotOf σ 111, slotOf σ 112, slotOf σ 113, slotOf σ 114, slotOf σ 115, slotOf σ 116, slotOf σ 117, slotOf σ 118, slotOf σ 119, slotOf σ 120, slotOf σ 121, slotOf σ 122, slotOf σ 123, slotOf σ 124, slotOf σ 125, slotOf σ 126, slotOf σ 127, slotOf σ 128, slotOf σ 129, slotOf σ 130, slotOf σ 131, slotOf σ 132, slotOf σ 133, slotOf σ 134, slotOf σ 135], [[.int .u8 t.kind, .int .i64 t.num, .str t.name, .slice .imm (if (t.kids.map dN).isEmpty = true then 0 else 4) (t.kids.map dN)]], 0, []⟩ ∧ g78 = decide (t.kind = 46 ∨ t.kind = 47 ∨ t.kind = 48 ∨ t.kind = 49)) ?_ ?_
       ·skip
        refine X_seq ?_
        refine X_rg fun R hR => ?_
        simp only [inr_u8, Int.reduceLE, aops, astep, awant, aeff, aop, abin, aint, ev, ofValue, St.put, zg1, zg0, zgd, zmo, if_true, zs1, zs0, and_self, b18]
        with_reducible refine hR _ ?_
        clear hR R
        show X _ _ _ _
        refine X_ite (by simp only [ev, zg1, zg0, zgd]; exact rfl) ?_ ?_
        ·intro b19
         have c19 := b19
         try simp only [beq_iff_eq] at c19
         refine X_skip ?_
         exact ⟨_, rfl, by first | (simp [c19]; done) | (simp [c2, c12, c14, c18, c19]; rfl)⟩
        ·intro b20
         have c20 := b20
         try simp only [ne_eq, beq_eq_false_iff_ne] at c20
         refine X_seq ?_
         refine X_rg fun R hR => ?_
         simp only [inr_u8, Int.reduceLE, aops, astep, awant, aeff, aop, abin, aint, ev, ofValue, St.put, zg1, zg0, zgd, zmo, if_true, zs1, zs0, and_self, b20]
         with_reducible refine hR _ ?_
         clear hR R
         show X _ _ _ _
         refine X_ite (by simp only [ev, zg1, zg0, zgd]; exact rfl) ?_ ?_
         ·intro b21
          have c21 := b21
          try simp only [beq_iff_eq] at c21
          refine X_skip ?_
          exact ⟨_, rfl, by first | (simp [c21]; done) | (simp [c2, c12, c14, c18, c20, c21]; rfl)⟩
         ·intro b22
          have c22 := b22
          try simp only [ne_eq, beq_eq_false_iff_ne] at c22
          refine X_seq ?_
          refine X_rg fun R hR => ?_
          simp only [inr_u8, Int.reduceLE, aops, astep, awant, aeff, aop, abin, aint, ev, ofValue, St.put, zg1, zg0, zgd, zmo, if_true, zs1, zs0, and_self, b22]
          with_reducible refine hR _ ?_
          clear hR R
          show X _ _ _ _
          refine X_ite (by simp only [ev, zg1, zg0, zgd]; exact rfl) ?_ ?_
          ·intro b23
           have c23 := b23
           try simp only [beq_iff_eq] at c23
           refine X_skip ?_
           exact ⟨_, rfl, by first | (simp [c23]; done) | (simp [c2, c12, c14, c18, c20, c22, c23]; rfl)⟩
          ·intro b24
           have c24 := b24
           try simp only [ne_eq, beq_eq_false_iff_ne] at c24
           refine X_rg fun R hR => ?_
           simp only [inr_u8, Int.reduceLE, aops, astep, awant, aeff, aop, abin, aint, ev, ofValue, St.put, zg1, zg0, zgd, zmo, if_true, zs1, zs0, and_self, b24]
           with_reducible refine hR _ ?_
           clear hR R
           exact ⟨_, rfl, by first | (simp [c20, c22, c24]; done) | (simp [c20, c22, c24]; rfl)⟩
       ·skip
        rintro σ ⟨g78, hσ, hg78⟩
        generalize slotOf σ = x at hσ
        subst hσ
        refine X_ite (by simp only [ev, zg1, zg0, zgd]; exact rfl) ?_ ?_
        ·intro b25
         have c25 := b25
         try simp only [znt, znf, decide_eq_true_eq, decide_eq_false_iff_not, beq_iff_eq, Int.not_lt, Int.not_le, ge_iff_le, gt_iff_lt, bne_iff_ne, ne_eq, bne_eq_false_iff_eq, beq_eq_false_iff_ne, zat, zof] at c25
         have hk78 := of_decide_eq_true (hg78.symm.trans b25)
         refine X_seq ?_
         have hlen := (okN_len hok).2.1 (by first | (simp [*]; done) | omega)
         have hlt0 : 0 < t.kids.length := by omega
         have hn0 := kid_n hlt0
         have he0 := kid_e hlt0
         have hl0 : ((0 : Int) < (t.kids.length : Int)) = True := eq_true (by omega)
         have hA := alias_own t.kids [(kidN t 0).name] hkc (by omega) (by simp) (by simp) 0 9
         simp only [zmc, zmn, dS] at hA
         refine X_rg fun R hR => ?_
         simp only [EVP, inr_i64, Int.reduceLE, Int.reduceNeg, aops, astep, awant, aeff, aop, mkD, abuild, ev, ofValue, St.put, pcall, gd_str, ia_str, cl_str, ia_slice, zmc, zmn, zg1, zg0, zgd, zmo, if_true, zs1, zs0, zlm, zlc, zln, zd1, zd0, zt1, zt0, zca, zna, Nat.reduceAdd, Nat.reduceLeDiff, Nat.reduceLT, Nat.zero_add, Bool.and_true, zft, if_false, and_self, reduceCtorEq, List.all_cons, List.all_nil, beq_self_eq_true, zis, Nat.reduceMul, rng_1, ty_string, ty_s_api_Node, ty_api_Node, und_api_Node, siz_api_Node, inf_api_Node_eq, und_string, inf_string_eq, inf_string_size, inf_string_zero, any70, sl, b25, hn0, he0, hl0, Int.toNat_zero, dN_eq (kidN t 0), hA]
         with_reducible refine hR _ ?_
         clear hR R
         show X _ _ _ _
         refine X_ret ?_
         show resD _ _ _ = some _
         simp only [resD, resAll, resOne, resTup, Try.results51, EVP, zg1, zg0, D.good, if_true, zmo] <;> (first | (simp [rejT, c2, c14, hn18, hn62, hk78]; rfl; done) | (simp [rejT, c2, c14, hn18, hn62, hk78]; done) | (simp [rejT, c2, c12, c14, c18, c25, hn18, hn62, hk78, hf.out, dup_y hlt (by assumption), nmE]; done) | (simp [rejT, c2, c12, c14, c18, c25, hn18, hn62, hk78, hf.out, show t.kids.length - i = 0 from by omega, dupN, nmE]; rfl; done) | (unfold rejT; rw [if_neg (by omega), if_pos (by omega)]; simp [c2, c12, c14, c18, c25, hn18, hn62, hk78]; done) | (unfold rejT; rw [if_neg (by omega), if_pos (by omega)]; simp [c2, c12, c14, c18, c25, hn18, hn62, hk78]; rfl; done) | (unfold rejT; rw [if_neg (by omega), if_neg (by omega), if_neg (by omega), if_pos (by omega)]; simp [c2, c12, c14, c18, c25, hn18, hn62, hk78]; done) | (unfold rejT; rw [if_neg (by omega), if_neg (by omega), if_neg (by omega), if_neg (by omega), if_pos (by omega)]; simp [c2, c12, c14, c18, c25, hn18, hn62, hk78]; done) | (unfold rejT; rw [if_neg (by omega), if_neg (by omega), if_neg (by omega), if_neg (by omega), if_neg (by omega), if_pos (by omega), hf.out, dup_y hlt (by assumption)]; rfl; done) | (unfold rejT; rw [if_neg (by omega), if_neg (by omega), if_neg (by omega), if_neg (by omega), if_neg (by omega), if_pos (by omega), hf.out, show t.kids.length - i = 0 from by omega]; rfl; done) | (rw [rejT_no (by omega)]; rfl; done) | (exfalso; simp_all; done))
        ·intro b26
         have c26 := b26
         try simp only [znt, znf, decide_eq_true_eq, decide_eq_false_iff_not, beq_iff_eq, Int.not_lt, Int.not_le, ge_iff_le, gt_iff_lt, bne_iff_ne, ne_eq, bne_eq_false_iff_eq, beq_eq_false_iff_ne, zat, zof] at c26
         have hn78 := of_decide_eq_false (hg78.symm.trans b26)
         refine X_seqJ (fun σ => ∃ (g94 : Bool), σ = ⟨[slotOf σ 0, .ptr 0 0, slotOf σ 2, slotOf σ 3, slotOf σ 4, slotOf σ 5, slotOf σ 6, slotOf σ 7, slotOf σ 8, slotOf σ 9, .int .u8 t.kind, slotOf σ 11, slotOf σ 12, slotOf σ 13, slotOf σ 14, slotOf σ 15, slotOf σ 16, slotOf σ 17, slotOf σ 18, slotOf σ 19, slotOf σ 20, slotOf σ 21, slotOf σ 22, slotOf σ 23, slotOf σ 24, slotOf σ 25, slotOf σ 26, slotOf σ 27, slotOf σ 28, slotOf σ 29, slotOf σ 30, slotOf σ 31, slotOf σ 32, slotOf σ 33, slotOf σ 34, slotOf σ 35, slotOf σ 36, slotOf σ 37, slotOf σ 38, slotOf σ 39, slotOf σ 40, slotOf σ 41, slotOf σ 42, slotOf σ 43, slotOf σ 44, slotOf σ 45, slotOf σ 46, slotOf σ 47, slotOf σ 48, slotOf σ 49, slotOf σ 50, slotOf σ 51, slotOf σ 52, slotOf σ 53, slotOf σ 54, slotOf σ 55, slotOf σ 56, slotOf σ 57, slotOf σ 58, slotOf σ 59, slotOf σ 60, slotOf σ 61, slotOf σ 62, slotOf σ 63, slotOf σ 64, slotOf σ 65, slotOf σ 66, slotOf σ 67, slotOf σ 68, slotOf σ 69, slotOf σ 70, slotOf σ 71, slotOf σ 72, slotOf σ 73, slotOf σ 74, slotOf σ 75, slotOf σ 76, slotOf σ 77, slotOf σ 78, slotOf σ 79, slotOf σ 80, slotOf σ 81, slotOf σ 82, slotOf σ 83, slotOf σ 84, slotOf σ 85, slotOf σ 86, slotOf σ 87, slotOf σ 88, slotOf σ 89, slotOf σ 90, slotOf σ 91, slotOf σ 92, slotOf σ 93, .bool g94, slotOf σ 95, slotOf σ 96, slotOf σ 97, slotOf σ 98, slotOf σ 99, slotOf σ 100, slotOf σ 101, slotOf σ 102, slotOf σ 103, slotOf σ 104, slotOf σ 105, slotOf σ 106, slotOf σ 107, slotOf σ 108, slotOf σ 109, slotOf σ 110, slotOf σ 111, slotOf σ 112, slotOf σ 113, slotOf σ 114, slotOf σ 115, slotOf σ 116, slotOf σ 117, slotOf σ 118, slotOf σ 119, slotOf σ 120, slotOf σ 121, slotOf σ 122, slotOf σ 123, slotOf σ 124, slotOf σ 125, slotOf σ 126, slotOf σ 127, slotOf σ 128, slotOf σ 129, slotOf σ 130, slotOf σ 131, slotOf σ 132, slotOf σ 133, slotOf σ 134, slotOf σ 135], [[.int .u8 t.kind, .int .i64 t.num, .str t.name, .slice .imm (if (t.kids.map dN).isEmpty = true then 0 else 4) (t.kids.map dN)]], 0, []⟩ ∧ g94 = decide (t.kind = 50 ∨ t.kind = 51)) ?_ ?_
         ·skip
          refine X_seq ?_
          refine X_rg fun R hR => ?_
          simp only [inr_u8, Int.reduceLE, aops, astep, awant, aeff, aop, abin, aint, ev, ofValue, St.put, zg1, zg0, zgd, zmo, if_true, zs1, zs0, and_self, b26]
          with_reducible refine hR _ ?_
          clear hR R
          show X _ _ _ _
          refine X_ite (by simp only [ev, zg1, zg0, zgd]; exact rfl) ?_ ?_
          ·intro b27
           have c27 := b27
           try simp only [beq_iff_eq] at c27
           refine X_skip ?_
           exact ⟨_, rfl, by first | (simp [c27]; done) | (simp [c2, c12, c14, c18, c26, c27]; rfl)⟩
          ·intro b28
           have c28 := b28
           try simp only [ne_eq, beq_eq_false_iff_ne] at c28
           refine X_rg fun R hR => ?_
           simp only [inr_u8, Int.reduceLE, aops, astep, awant, aeff, aop, abin, aint, ev, ofValue, St.put, zg1, zg0, zgd, zmo, if_true, zs1, zs0, and_self, b28]
           with_reducible refine hR _ ?_
           clear hR R
           exact ⟨_, rfl, by first | (simp [c28]; done) | (simp [c28]; rfl)⟩
         ·skip
          rintro σ ⟨g94, hσ, hg94⟩
          generalize slotOf σ = x at hσ
          subst hσ
          refine X_ite (by simp only [ev, zg1, zg0, zgd]; exact rfl) ?_ ?_
          ·intro b29
           have c29 := b29
           try simp only [znt, znf, decide_eq_true_eq, decide_eq_false_iff_not, beq_iff_eq, Int.not_lt, Int.not_le, ge_iff_le, gt_iff_lt, bne_iff_ne, ne_eq, bne_eq_false_iff_eq, beq_eq_false_iff_ne, zat, zof] at c29
           have hk94 := of_decide_eq_true (hg94.symm.trans b29)
           refine X_seq ?_
           refine X_rg fun R hR => ?_
           simp only [EVP, inr_i64, Int.reduceLE, Int.reduceNeg, aops, astep, awant, aeff, aop, mkD, ev, ofValue, St.put, ia_slice, zg1, zg0, zgd, zmo, if_true, zs1, zs0, zlm, zlc, zln, zd1, zd0, zt1, zt0, Nat.reduceAdd, Nat.reduceLeDiff, Nat.zero_add, zft, if_false, and_self, reduceCtorEq, ty_s_api_Node, ty_api_Node, und_api_Node, b29]
           with_reducible refine hR _ ?_
           clear hR R
           show X _ _ _ _
           refine X_block ?_
           refine X_loop (fun m σ => ∃ (i : Nat) (r : List (List D)), σ = ⟨[slotOf σ 0, .ptr 0 0, slotOf σ 2, slotOf σ 3, slotOf σ 4, slotOf σ 5, slotOf σ 6, slotOf σ 7, slotOf σ 8, slotOf σ 9, slotOf σ 10, slotOf σ 11, slotOf σ 12, slotOf σ 13, slotOf σ 14, slotOf σ 15, slotOf σ 16, slotOf σ 17, slotOf σ 18, slotOf σ 19, slotOf σ 20, slotOf σ 21, slotOf σ 22, slotOf σ 23, slotOf σ 24, slotOf σ 25, slotOf σ 26, slotOf σ 27, slotOf σ 28, slotOf σ 29, slotOf σ 30, slotOf σ 31, slotOf σ 32, slotOf σ 33, slotOf σ 34, slotOf σ 35, slotOf σ 36, slotOf σ 37, slotOf σ 38, slotOf σ 39, slotOf σ 40, slotOf σ 41, slotOf σ 42, slotOf σ 43, slotOf σ 44, slotOf σ 45, slotOf σ 46, slotOf σ 47, slotOf σ 48, slotOf σ 49, slotOf σ 50, slotOf σ 51, slotOf σ 52, slotOf σ 53, slotOf σ 54, slotOf σ 55, slotOf σ 56, slotOf σ 57, slotOf σ 58, slotOf σ 59, slotOf σ 60, slotOf σ 61, slotOf σ 62, slotOf σ 63, slotOf σ 64, slotOf σ 65, slotOf σ 66, slotOf σ 67, slotOf σ 68, slotOf σ 69, slotOf σ 70, slotOf σ 71, slotOf σ 72, slotOf σ 73, slotOf σ 74, slotOf σ 75, slotOf σ 76, slotOf σ 77, slotOf σ 78, slotOf σ 79, slotOf σ 80, slotOf σ 81, slotOf σ 82, slotOf σ 83, slotOf σ 84, slotOf σ 85, slotOf σ 86, slotOf σ 87, slotOf σ 88, slotOf σ 89, slotOf σ 90, slotOf σ 91, slotOf σ 92, slotOf σ 93, slotOf σ 94, slotOf σ 95, slotOf σ 96, slotOf σ 97, .slice .imm (if (t.kids.map dN).isEmpty = true then 0 else 4) (t.kids.map dN), .int .i64 t.kids.length, .int .i64 i, slotOf σ 101, slotOf σ 102, slotOf σ 103, slotOf σ 104, slotOf σ 105, slotOf σ 106, slotOf σ 107, slotOf σ 108, slotOf σ 109, slotOf σ 110, slotOf σ 111, slotOf σ 112, slotOf σ 113, slotOf σ 114, slotOf σ 115, slotOf σ 116, slotOf σ 117, slotOf σ 118, slotOf σ 119, slotOf σ 120, slotOf σ 121, slotOf σ 122, slotOf σ 123, slotOf σ 124, slotOf σ 125, slotOf σ 126, slotOf σ 127, slotOf σ 128, slotOf σ 129, slotOf σ 130, slotOf σ 131, slotOf σ 132, slotOf σ 133, slotOf σ 134, slotOf σ 135], [.int .u8 t.kind, .int .i64 t.num, .str t.name, .slice .imm (if (t.kids.map dN).isEmpty = true then 0 else 4) (t.kids.map dN)] :: r, 0, []⟩ ∧ m = t.kids.length - i ∧ i ≤ t.kids.length ∧ Hid (Free r) ∧ Hid (dupN t.kids 0 t.kids.length = dupN t.kids i (t.kids.length - i))) ?_ (t.kids.length) _ ?_
           rotate_left
           ·exact ⟨0, [], rfl, rfl, Nat.zero_le _, Lib.hid Free.nil, Lib.hid rfl⟩
           rintro m σ ⟨i, r, hσ, rfl, hi, hfr, hf⟩
           generalize slotOf σ = x at hσ
           subst hσ
           have hfr := hfr.out
           refine X_seq ?_
           refine X_rg fun R hR => ?_
           simp only [nat_lt, aops, astep, awant, aeff, aop, abin, aint, ev, St.put, zg1, zg0, zgd, zmo, if_true, zs1, zs0]
           with_reducible refine hR _ ?_
           clear hR R
           show X _ _ _ _
           refine X_seq ?_
           refine X_ite (by simp only [ev, zg1, zg0, zgd]; exact rfl) ?_ ?_
           ·intro b30
            have c30 := b30
            try simp only [decide_eq_true_eq] at c30
            refine X_skip ?_
            show X _ _ _ _
            refine X_seq ?_
            refine X_block ?_
            refine X_seq ?_
            have hlt : i < t.kids.length := by first | assumption | omega
            have hn1 := kid_n hlt
            have e1 : (t.kids.map dN)[i]? = some (dN t.kids[i]) := by simp [hlt]
            refine X_rg fun R hR => ?_
            simp only [EVP, app_get0, app_set0, nat_lt, nat_0, nat_to, aops, astep, awant, aeff, aop, astore, ev, St.put, zg1, zg0, zgd, zmo, zbs, if_true, zs1, zs0, zlm, zlc, zln, zd1, zd0, zt0, zca, zna, Nat.reduceAdd, Nat.reduceLeDiff, Nat.zero_add, and_self, decide_true, zis, ty_api_Node, und_api_Node, siz_api_Node, inf_api_Node_eq, dN_cells, dN_isAgg, dN_good, sl, hlt, hn1, e1]
            with_reducible refine hR _ ?_
            clear hR R
            show X _ _ _ _
            refine X_seq ?_
            have hT : (t.kids.map dN).take i = (t.kids.take i).map dN := by simp
            have hle : ((i : Int) ≤ (t.kids.length : Int)) = True := eq_true (by omega)
            have hC := fun fr => cont_cal (t.kids.take i) t.kids[i] (if (t.kids.map dN).isEmpty = true then 0 else 4) (fun h => sl_n (j := 0) (by simp; omega)) (r.length + 1) fr ([.int .u8 t.kind, .int .i64 t.num, .str t.name, .slice .imm (if (t.kids.map dN).isEmpty = true then 0 else 4) (t.kids.map dN)] :: (r ++ [[.int .u8 t.kids[i].kind, .int .i64 t.kids[i].num, .str t.kids[i].name, .slice .imm (if (t.kids[i].kids.map dN).isEmpty = true then 0 else 4) (t.kids[i].kids.map dN)]])) 0 [] (by simp; omega) (by simp []) (fr9 hfr t t.kids[i])
            refine X_rc fun R hR => ?_
            simp only [EVP, nat_to, aops, astep, awant, aeff, aop, mkD, idx, aslice, ev, St.put, ia_slice, gd_ptr, ia_ptr, zmc, zmn, zg1, zg0, zgd, zmo, Option.map_none, if_true, zs1, zs0, zlm, zlc, zln, zd1, zd0, zt1, zt0, zca, zna, Nat.reduceAdd, Nat.reduceLeDiff, Nat.zero_add, Bool.and_true, Bool.not_false, zft, if_false, and_self, reduceCtorEq, List.all_cons, List.all_nil, Array.isEmpty_empty, zis, ty_s_api_Node, ty_api_Node, und_api_Node, siz_api_Node, inf_api_Node_eq, any71, hT, hle, Nat.sub_zero, le0n, sl_or, hC, zca]
            with_reducible refine hR _ ?_
            clear hR R
            show X _ _ _ _
            refine X_ite (by simp only [ev, zg1, zg0, zgd]; exact rfl) ?_ ?_
            ·intro b31
             have c31 := b31
             try simp only [znt, znf, decide_eq_true_eq, decide_eq_false_iff_not, beq_iff_eq, Int.not_lt, Int.not_le, ge_iff_le, gt_iff_lt, bne_iff_ne, ne_eq, bne_eq_false_iff_eq, beq_eq_false_iff_ne, zat, zof] at c31
             refine X_seq ?_
             refine X_rg fun R hR => ?_
             simp only [EVP, inr_i64, Int.reduceLE, Int.reduceNeg, app_get0, aops, astep, awant, aeff, aop, mkD, ev, ofValue, St.put, ia_str, zg1, zg0, zgd, zmo, if_true, zs1, zs0, zlc, zln, zd1, zd0, zt1, zt0, Nat.reduceAdd, Nat.reduceLeDiff, Nat.zero_add, zft, if_false, and_self, reduceCtorEq, ty_string, ty_api_Node, b31]
             with_reducible refine hR _ ?_
             clear hR R
             show X _ _ _ _
             refine X_ret ?_
             show resD _ _ _ = some _
             simp only [resD, resAll, resOne, resTup, Try.results51, EVP, zg1, zg0, D.good, if_true, zmo] <;> (first | (simp [rejT, c2, c14, hn18, hn62, hn78, hk94]; rfl; done) | (simp [rejT, c2, c14, hn18, hn62, hn78, hk94]; done) | (simp [rejT, c2, c14, hn18, hn62, hn78, hk94, hf.out, dup_y hlt (by assumption), nmE]; done) | (simp [rejT, c2, c12, c14, c18, c26, c29, c30, c31, hn18, hn62, hn78, hk94, hf.out, show t.kids.length - i = 0 from by omega, dupN, nmE]; rfl; done) | (unfold rejT; rw [if_neg (by omega), if_pos (by omega)]; simp [c2, c12, c14, c18, c26, c29, c30, c31, hn18, hn62, hn78, hk94]; done) | (unfold rejT; rw [if_neg (by omega), if_pos (by omega)]; simp [c2, c12, c14, c18, c26, c29, c30, c31, hn18, hn62, hn78, hk94]; rfl; done) | (unfold rejT; rw [if_neg (by omega), if_neg (by omega), if_neg (by omega), if_pos (by omega)]; simp [c2, c12, c14, c18, c26, c29, c30, c31, hn18, hn62, hn78, hk94]; done) | (unfold rejT; rw [if_neg (by omega), if_neg (by omega), if_neg (by omega), if_neg (by omega), if_pos (by omega)]; simp [c2, c12, c14, c18, c26, c29, c30, c31, hn18, hn62, hn78, hk94]; done) | (unfold rejT; rw [if_neg (by omega), if_neg (by omega), if_neg (by omega), if_neg (by omega), if_neg (by omega), if_pos (by omega), hf.out, dup_y hlt (by assumption)]; rfl; done) | (unfold rejT; rw [if_neg (by omega), if_neg (by omega), if_neg (by omega), if_neg (by omega), if_neg (by omega), if_pos (by omega), hf.out, show t.kids.length - i = 0 from by omega]; rfl; done) | (rw [rejT_no (by omega)]; rfl; done) | (exfalso; simp_all; done))
            ·intro b32
             have c32 := b32
             try simp only [znt, znf, decide_eq_true_eq, decide_eq_false_iff_not, beq_iff_eq, Int.not_lt, Int.not_le, ge_iff_le, gt_iff_lt, bne_iff_ne, ne_eq, bne_eq_false_iff_eq, beq_eq_false_iff_ne, zat, zof] at c32
             refine X_skip ?_
             show X _ _ _ _
             have hbig : i < 9223372036854775807 := by omega
             refine X_rg fun R hR => ?_
             simp only [inr_i64, Int.reduceLE, Int.reduceNeg, aops, astep, awant, aeff, aop, abin, aint, ev, ofValue, St.put, zg1, zg0, zgd, zmo, if_true, zs1, zs0, and_self, b32, nat_succ hbig]
             with_reducible refine hR _ ?_
             clear hR R
             show ∃ m, m < _ ∧ _
             exact ⟨t.kids.length - (i + 1), by omega, i + 1, _, rfl, rfl, by omega, Lib.hid (Free.snoc hfr (fc9 t.kids[i])), Lib.hid (hf.out.trans (dup_n hlt (by first | assumption | simp_all)))⟩
           ·intro b33
            have c33 := b33
            try simp only [decide_eq_false_iff_not] at c33
            refine X_exit ?_
            show X _ _ _ _
            refine X_seq ?_
            refine X_rg fun R hR => ?_
            simp only [inr_i64, Int.reduceLE, Int.reduceNeg, aops, astep, awant, aeff, aop, ev, ofValue, St.put, zgd, zmo, if_true, zs1, zs0, and_self, emp_ok, b33]
            with_reducible refine hR _ ?_
            clear hR R
            show X _ _ _ _
            refine X_ret ?_
            show resD _ _ _ = some _
            simp only [resD, resAll, resOne, resTup, Try.results51, EVP, zg1, zg0, D.good, if_true, zmo] <;> (first | (simp [rejT, c2, c14, hn18, hn62, hn78, hk94]; rfl; done) | (simp [rejT, c2, c14, hn18, hn62, hn78, hk94]; done) | (simp [rejT, c2, c12, c14, c18, c26, c29, c33, hn18, hn62, hn78, hk94, hf.out, dup_y hlt (by assumption), nmE]; done) | (simp [rejT, c2, c14, hn18, hn62, hn78, hk94, hf.out, show t.kids.length - i = 0 from by omega, dupN, nmE]; rfl; done) | (unfold rejT; rw [if_neg (by omega), if_pos (by omega)]; simp [c2, c12, c14, c18, c26, c29, c33, hn18, hn62, hn78, hk94]; done) | (unfold rejT; rw [if_neg (by omega), if_pos (by omega)]; simp [c2, c12, c14, c18, c26, c29, c33, hn18, hn62, hn78, hk94]; rfl; done) | (unfold rejT; rw [if_neg (by omega), if_neg (by omega), if_neg (by omega), if_pos (by omega)]; simp [c2, c12, c14, c18, c26, c29, c33, hn18, hn62, hn78, hk94]; done) | (unfold rejT; rw [if_neg (by omega), if_neg (by omega), if_neg (by omega), if_neg (by omega), if_pos (by omega)]; simp [c2, c12, c14, c18, c26, c29, c33, hn18, hn62, hn78, hk94]; done) | (unfold rejT; rw [if_neg (by omega), if_neg (by omega), if_neg (by omega), if_neg (by omega), if_neg (by omega), if_pos (by omega), hf.out, dup_y hlt (by assumption)]; rfl; done) | (unfold rejT; rw [if_neg (by omega), if_neg (by omega), if_neg (by omega), if_neg (by omega), if_neg (by omega), if_pos (by omega), hf.out, show t.kids.length - i = 0 from by omega]; rfl; done) | (rw [rejT_no (by omega)]; rfl; done) | (exfalso; simp_all; done))
          ·intro b34
           have c34 := b34
           try simp only [znt, znf, decide_eq_true_eq, decide_eq_false_iff_not, beq_iff_eq, Int.not_lt, Int.not_le, ge_iff_le, gt_iff_lt, bne_iff_ne, ne_eq, bne_eq_false_iff_eq, beq_eq_false_iff_ne, zat, zof] at c34
           have hn94 := of_decide_eq_false (hg94.symm.trans b34)
           refine X_seq ?_
           refine X_rg fun R hR => ?_
           simp only [inr_u8, Int.reduceLE, aops, astep, awant, aeff, aop, abin, aint, ev, ofValue, St.put, zg1, zg0, zgd, zmo, if_true, zs1, zs0, and_self, b34]
           with_reducible refine hR _ ?_
           clear hR R
           show X _ _ _ _
           refine X_ite (by simp only [ev, zg1, zg0, zgd]; exact rfl) ?_ ?_
           ·intro b35
            have c35 := b35
            try simp only [beq_iff_eq] at c35
            refine X_seq ?_
            have hlen := (okN_len hok).2.2 (by first | (simp [*]; done) | omega)
            have hlt0 : 0 < t.kids.length := by omega
            have hn0 := kid_n hlt0
            have he0 := kid_e hlt0
            have hl0 : ((0 : Int) < (t.kids.length : Int)) = True := eq_true (by omega)
            have hlt3 : 3 < t.kids.length := by omega
            have hn3 := kid_n hlt3
            have he3 := kid_e hlt3
            have hl3 : ((3 : Int) < (t.kids.length : Int)) = True := eq_true (by omega)
            have hC0 := cst_fn (kidN t 0) (kidN_size hs)
            have hC3 := cst_fn (kidN t 3) (kidN_size hs)
            refine X_y ?_
            refine Y_k 6 fun R hR => ?_
            simp only [EVP, inr_i64, Int.reduceLE, Int.reduceNeg, aops, astep, awant, aeff, aop, mkD, ev, ofValue, St.put, pcall, ia_slice, zmc, zmn, zg1, zg0, zgd, zmo, if_true, zs1, zs0, zlm, zlc, zln, zd1, zd0, zt1, zt0, zca, zna, Nat.reduceAdd, Nat.reduceLeDiff, Nat.zero_add, zft, if_false, and_self, reduceCtorEq, zis, ty_s_api_Node, ty_api_Node, und_api_Node, siz_api_Node, inf_api_Node_eq, any73, dN_cells, dN_isAgg, sl, b35, hn0, he3, hl3, Int.reduceToNat, hC3]
            with_reducible refine hR _ ?_
            clear hR R
            simp only [zd1, zd0]
            refine Y_if 121 (by simp only [ev, zg1, zg0, zgd]; exact rfl) ?_ ?_
            ·intro b36
             have c36 := b36
             try simp only [znt, znf, decide_eq_true_eq, decide_eq_false_iff_not, beq_iff_eq, Int.not_lt, Int.not_le, ge_iff_le, gt_iff_lt, bne_iff_ne, ne_eq, bne_eq_false_iff_eq, beq_eq_false_iff_ne, zat, zof] at c36
             refine Y_end fun R hR => ?_
             simp only [EVP, inr_i64, Int.reduceLE, Int.reduceNeg, aops, astep, awant, aeff, aop, mkD, ev, ofValue, St.put, pcall, ia_slice, zmc, zmn, zg1, zg0, zgd, zmo, zbs, if_true, zs1, zs0, zlm, zlc, zln, zd1, zd0, zt1, zt0, zca, zna, Nat.reduceAdd, Nat.reduceLeDiff, Nat.zero_add, zft, if_false, and_self, reduceCtorEq, beq_self_eq_true, zis, ty_s_api_Node, ty_api_Node, und_api_Node, siz_api_Node, inf_api_Node_eq, any73, dN_cells, dN_isAgg, sl, b36, hn0, he0, hl0, Int.toNat_zero, hC0]
             with_reducible refine hR _ ?_
             clear hR R
             show X _ _ _ _
             refine X_ite (by simp only [ev, zg1, zg0, zgd]; exact rfl) ?_ ?_
             ·intro b37
              have c37 := b37
              try simp only [znt] at c37
              refine X_seq ?_
              refine X_rg fun R hR => ?_
              simp only [inr_i64, Int.reduceLE, Int.reduceNeg, aops, astep, awant, aeff, aop, ev, ofValue, St.put, zgd, zmo, if_true, zs1, zs0, and_self, emp_ok, b37]
              with_reducible refine hR _ ?_
              clear hR R
              show X _ _ _ _
              refine X_ret ?_
              show resD _ _ _ = some _
              simp only [resD, resAll, resOne, resTup, Try.results51, EVP, zg1, zg0, D.good, if_true, zmo] <;> (first | (simp [rejT, c35, c36, c37]; rfl; done) | (simp [rejT, c2, c12, c14, c18, c26, c34, c35, c36, c37, hn18, hn62, hn78, hn94]; done) | (simp [rejT, c2, c12, c14, c18, c26, c34, c35, c36, c37, hn18, hn62, hn78, hn94, hf.out, dup_y hlt (by assumption), nmE]; done) | (simp [rejT, c2, c12, c14, c18, c26, c34, c35, c36, c37, hn18, hn62, hn78, hn94, hf.out, show t.kids.length - i = 0 from by omega, dupN, nmE]; rfl; done) | (unfold rejT; rw [if_neg (by omega), if_pos (by omega)]; simp [c2, c12, c14, c18, c26, c34, c35, c36, c37, hn18, hn62, hn78, hn94]; done) | (unfold rejT; rw [if_neg (by omega), if_pos (by omega)]; simp [c2, c12, c14, c18, c26, c34, c35, c36, c37, hn18, hn62, hn78, hn94]; rfl; done) | (unfold rejT; rw [if_neg (by omega), if_neg (by omega), if_neg (by omega), if_pos (by omega)]; simp [c2, c12, c14, c18, c26, c34, c35, c36, c37, hn18, hn62, hn78, hn94]; done) | (unfold rejT; rw [if_neg (by omega), if_neg (by omega), if_neg (by omega), if_neg (by omega), if_pos (by omega)]; simp [c2, c12, c14, c18, c26, c34, c35, c36, c37, hn18, hn62, hn78, hn94]; done) | (unfold rejT; rw [if_neg (by omega), if_neg (by omega), if_neg (by omega), if_neg (by omega), if_neg (by omega), if_pos (by omega), hf.out, dup_y hlt (by assumption)]; rfl; done) | (unfold rejT; rw [if_neg (by omega), if_neg (by omega), if_neg (by omega), if_neg (by omega), if_neg (by omega), if_pos (by omega), hf.out, show t.kids.length - i = 0 from by omega]; rfl; done) | (rw [rejT_no (by omega)]; rfl; done) | (exfalso; simp_all; done))
             ·intro b38
              have c38 := b38
              try simp only [znf] at c38
              refine X_skip ?_
              show X _ _ _ _
              refine X_seq ?_
              refine X_rg fun R hR => ?_
              simp only [inr_i64, Int.reduceLE, Int.reduceNeg, aops, astep, awant, aeff, aop, ev, ofValue, St.put, zgd, zmo, if_true, zs1, zs0, and_self, emp_ok, b38]
              with_reducible refine hR _ ?_
              clear hR R
              show X _ _ _ _
              refine X_ret ?_
              show resD _ _ _ = some _
              simp only [resD, resAll, resOne, resTup, Try.results51, EVP, zg1, zg0, D.good, if_true, zmo] <;> (first | (simp [rejT, c35, c36, c38]; rfl; done) | (simp [rejT, c2, c12, c14, c18, c26, c34, c35, c36, c38, hn18, hn62, hn78, hn94]; done) | (simp [rejT, c2, c12, c14, c18, c26, c34, c35, c36, c38, hn18, hn62, hn78, hn94, hf.out, dup_y hlt (by assumption), nmE]; done) | (simp [rejT, c2, c12, c14, c18, c26, c34, c35, c36, c38, hn18, hn62, hn78, hn94, hf.out, show t.kids.length - i = 0 from by omega, dupN, nmE]; rfl; done) | (unfold rejT; rw [if_neg (by omega), if_pos (by omega)]; simp [c2, c12, c14, c18, c26, c34, c35, c36, c38, hn18, hn62, hn78, hn94]; done) | (unfold rejT; rw [if_neg (by omega), if_pos (by omega)]; simp [c2, c12, c14, c18, c26, c34, c35, c36, c38, hn18, hn62, hn78, hn94]; rfl; done) | (unfold rejT; rw [if_neg (by omega), if_neg (by omega), if_neg (by omega), if_pos (by omega)]; simp [c2, c12, c14, c18, c26, c34, c35, c36, c38, hn18, hn62, hn78, hn94]; done) | (unfold rejT; rw [if_neg (by omega), if_neg (by omega), if_neg (by omega), if_neg (by omega), if_pos (by omega)]; simp [c2, c12, c14, c18, c26, c34, c35, c36, c38, hn18, hn62, hn78, hn94]; done) | (unfold rejT; rw [if_neg (by omega), if_neg (by omega), if_neg (by omega), if_neg (by omega), if_neg (by omega), if_pos (by omega), hf.out, dup_y hlt (by assumption)]; rfl; done) | (unfold rejT; rw [if_neg (by omega), if_neg (by omega), if_neg (by omega), if_neg (by omega), if_neg (by omega), if_pos (by omega), hf.out, show t.kids.length - i = 0 from by omega]; rfl; done) | (rw [rejT_no (by omega)]; rfl; done) | (exfalso; simp_all; done))
            ·intro b39
             have c39 := b39
             try simp only [znt, znf, decide_eq_true_eq, decide_eq_false_iff_not, beq_iff_eq, Int.not_lt, Int.not_le, ge_iff_le, gt_iff_lt, bne_iff_ne, ne_eq, bne_eq_false_iff_eq, beq_eq_false_iff_ne, zat, zof] at c39
             refine Y_end fun R hR => ?_
             simp only [EVP, aops, astep, awant, aeff, aop, ev, ofValue, St.put, pcall, zmc, zmn, zg1, zg0, zgd, zmo, Option.map_none, zbs, if_true, zs1, zs0, zca, zna, Nat.zero_add, zft, if_false, reduceCtorEq, bq_ft, ty_s_api_Node, ty_api_Node, und_api_Node, any73, b39]
             with_reducible refine hR _ ?_
             clear hR R
             show X _ _ _ _
             refine X_false (by simp only [ev, zg1, zg0, zgd]) ?_
             refine X_skip ?_
             show X _ _ _ _
             refine X_seq ?_
             refine X_rg fun R hR => ?_
             simp only [inr_i64, Int.reduceLE, Int.reduceNeg, aops, astep, awant, aeff, aop, ev, ofValue, St.put, zgd, zmo, if_true, zs1, zs0, and_self, emp_ok]
             with_reducible refine hR _ ?_
             clear hR R
             show X _ _ _ _
             refine X_ret ?_
             show resD _ _ _ = some _
             simp only [resD, resAll, resOne, resTup, Try.results51, EVP, zg1, zg0, D.good, if_true, zmo] <;> (first | (simp [rejT, c35, c39]; rfl; done) | (simp [rejT, c2, c12, c14, c18, c26, c34, c35, c39, hn18, hn62, hn78, hn94]; done) | (simp [rejT, c2, c12, c14, c18, c26, c34, c35, c39, hn18, hn62, hn78, hn94, hf.out, dup_y hlt (by assumption), nmE]; done) | (simp [rejT, c2, c12, c14, c18, c26, c34, c35, c39, hn18, hn62, hn78, hn94, hf.out, show t.kids.length - i = 0 from by omega, dupN, nmE]; rfl; done) | (unfold rejT; rw [if_neg (by omega), if_pos (by omega)]; simp [c2, c12, c14, c18, c26, c34, c35, c39, hn18, hn62, hn78, hn94]; done) | (unfold rejT; rw [if_neg (by omega), if_pos (by omega)]; simp [c2, c12, c14, c18, c26, c34, c35, c39, hn18, hn62, hn78, hn94]; rfl; done) | (unfold rejT; rw [if_neg (by omega), if_neg (by omega), if_neg (by omega), if_pos (by omega)]; simp [c2, c12, c14, c18, c26, c34, c35, c39, hn18, hn62, hn78, hn94]; done) | (unfold rejT; rw [if_neg (by omega), if_neg (by omega), if_neg (by omega), if_neg (by omega), if_pos (by omega)]; simp [c2, c12, c14, c18, c26, c34, c35, c39, hn18, hn62, hn78, hn94]; done) | (unfold rejT; rw [if_neg (by omega), if_neg (by omega), if_neg (by omega), if_neg (by omega), if_neg (by omega), if_pos (by omega), hf.out, dup_y hlt (by assumption)]; rfl; done) | (unfold rejT; rw [if_neg (by omega), if_neg (by omega), if_neg (by omega), if_neg (by omega), if_neg (by omega), if_pos (by omega), hf.out, show t.kids.length - i = 0 from by omega]; rfl; done) | (rw [rejT_no (by omega)]; rfl; done) | (exfalso; simp_all; done))
           ·intro b40
            have c40 := b40
            try simp only [ne_eq, beq_eq_false_iff_ne] at c40
            refine X_seq ?_
            refine X_rg fun R hR => ?_
            simp only [inr_u8, Int.reduceLE, aops, astep, awant, aeff, aop, abin, aint, ev, ofValue, St.put, zg1, zg0, zgd, zmo, if_true, zs1, zs0, and_self, b40]
            with_reducible refine hR _ ?_
            clear hR R
            show X _ _ _ _
            refine X_ite (by simp only [ev, zg1, zg0, zgd]; exact rfl) ?_ ?_
            ·intro b41
             have c41 := b41
             try simp only [beq_iff_eq] at c41
             refine X_seq ?_
             have hlen := (okN_len hok).2.2 (by first | (simp [*]; done) | omega)
             have hlt0 : 0 < t.kids.length := by omega
             have hn0 := kid_n hlt0
             have he0 := kid_e hlt0
             have hl0 : ((0 : Int) < (t.kids.length : Int)) = True := eq_true (by omega)
             have hC0 := cst_fn (kidN t 0) (kidN_size hs)
             refine X_rg fun R hR => ?_
             simp only [EVP, inr_i64, Int.reduceLE, Int.reduceNeg, aops, astep, awant, aeff, aop, mkD, ev, ofValue, St.put, pcall, ia_slice, zmc, zmn, zg1, zg0, zgd, zmo, if_true, zs1, zs0, zlm, zlc, zln, zd1, zd0, zt1, zt0, zca, zna, Nat.reduceAdd, Nat.reduceLeDiff, Nat.zero_add, zft, if_false, and_self, reduceCtorEq, zis, ty_s_api_Node, ty_api_Node, und_api_Node, siz_api_Node, inf_api_Node_eq, any73, dN_cells, dN_isAgg, sl, b41, hn0, he0, hl0, Int.toNat_zero, hC0]
             with_reducible refine hR _ ?_
             clear hR R
             show X _ _ _ _
             refine X_ite (by simp only [ev, zg1, zg0, zgd]; exact rfl) ?_ ?_
             ·intro b42
              have c42 := b42
              try simp only [znt, znf, decide_eq_true_eq, decide_eq_false_iff_not, beq_iff_eq, Int.not_lt, Int.not_le, ge_iff_le, gt_iff_lt, bne_iff_ne, ne_eq, bne_eq_false_iff_eq, beq_eq_false_iff_ne, zat, zof] at c42
              refine X_seq ?_
              refine X_rg fun R hR => ?_
              simp only [inr_i64, Int.reduceLE, Int.reduceNeg, aops, astep, awant, aeff, aop, ev, ofValue, St.put, zgd, zmo, if_true, zs1, zs0, and_self, emp_ok, b42]
              with_reducible refine hR _ ?_
              clear hR R
              show X _ _ _ _
              refine X_ret ?_
              show resD _ _ _ = some _
              simp only [resD, resAll, resOne, resTup, Try.results51, EVP, zg1, zg0, D.good, if_true, zmo] <;> (first | (simp [rejT, c41, c42]; rfl; done) | (simp [rejT, c2, c12, c14, c18, c26, c34, c40, c41, c42, hn18, hn62, hn78, hn94]; done) | (simp [rejT, c2, c12, c14, c18, c26, c34, c40, c41, c42, hn18, hn62, hn78, hn94, hf.out, dup_y hlt (by assumption), nmE]; done) | (simp [rejT, c2, c12, c14, c18, c26, c34, c40, c41, c42, hn18, hn62, hn78, hn94, hf.out, show t.kids.length - i = 0 from by omega, dupN, nmE]; rfl; done) | (unfold rejT; rw [if_neg (by omega), if_pos (by omega)]; simp [c2, c12, c14, c18, c26, c34, c40, c41, c42, hn18, hn62, hn78, hn94]; done) | (unfold rejT; rw [if_neg (by omega), if_pos (by omega)]; simp [c2, c12, c14, c18, c26, c34, c40, c41, c42, hn18, hn62, hn78, hn94]; rfl; done) | (unfold rejT; rw [if_neg (by omega), if_neg (by omega), if_neg (by omega), if_pos (by omega)]; simp [c2, c12, c14, c18, c26, c34, c40, c41, c42, hn18, hn62, hn78, hn94]; done) | (unfold rejT; rw [if_neg (by omega), if_neg (by omega), if_neg (by omega), if_neg (by omega), if_pos (by omega)]; simp [c2, c12, c14, c18, c26, c34, c40, c41, c42, hn18, hn62, hn78, hn94]; done) | (unfold rejT; rw [if_neg (by omega), if_neg (by omega), if_neg (by omega), if_neg (by omega), if_neg (by omega), if_pos (by omega), hf.out, dup_y hlt (by assumption)]; rfl; done) | (unfold rejT; rw [if_neg (by omega), if_neg (by omega), if_neg (by omega), if_neg (by omega), if_neg (by omega), if_pos (by omega), hf.out, show t.kids.length - i = 0 from by omega]; rfl; done) | (rw [rejT_no (by omega)]; rfl; done) | (exfalso; simp_all; done))
             ·intro b43
              have c43 := b43
              try simp only [znt, znf, decide_eq_true_eq, decide_eq_false_iff_not, beq_iff_eq, Int.not_lt, Int.not_le, ge_iff_le, gt_iff_lt, bne_iff_ne, ne_eq, bne_eq_false_iff_eq, beq_eq_false_iff_ne, zat, zof] at c43
              refine X_skip ?_
              show X _ _ _ _
              refine X_seq ?_
              refine X_rg fun R hR => ?_
              simp only [inr_i64, Int.reduceLE, Int.reduceNeg, aops, astep, awant, aeff, aop, ev, ofValue, St.put, zgd, zmo, if_true, zs1, zs0, and_self, emp_ok, b43]
              with_reducible refine hR _ ?_
              clear hR R
              show X _ _ _ _
              refine X_ret ?_
              show resD _ _ _ = some _
              simp only [resD, resAll, resOne, resTup, Try.results51, EVP, zg1, zg0, D.good, if_true, zmo] <;> (first | (simp [rejT, c41, c43]; rfl; done) | (simp [rejT, c2, c12, c14, c18, c26, c34, c40, c41, c43, hn18, hn62, hn78, hn94]; done) | (simp [rejT, c2, c12, c14, c18, c26, c34, c40, c41, c43, hn18, hn62, hn78, hn94, hf.out, dup_y hlt (by assumption), nmE]; done) | (simp [rejT, c2, c12, c14, c18, c26, c34, c40, c41, c43, hn18, hn62, hn78, hn94, hf.out, show t.kids.length - i = 0 from by omega, dupN, nmE]; rfl; done) | (unfold rejT; rw [if_neg (by omega), if_pos (by omega)]; simp [c2, c12, c14, c18, c26, c34, c40, c41, c43, hn18, hn62, hn78, hn94]; done) | (unfold rejT; rw [if_neg (by omega), if_pos (by omega)]; simp [c2, c12, c14, c18, c26, c34, c40, c41, c43, hn18, hn62, hn78, hn94]; rfl; done) | (unfold rejT; rw [if_neg (by omega), if_neg (by omega), if_neg (by omega), if_pos (by omega)]; simp [c2, c12, c14, c18, c26, c34, c40, c41, c43, hn18, hn62, hn78, hn94]; done) | (unfold rejT; rw [if_neg (by omega), if_neg (by omega), if_neg (by omega), if_neg (by omega), if_pos (by omega)]; simp [c2, c12, c14, c18, c26, c34, c40, c41, c43, hn18, hn62, hn78, hn94]; done) | (unfold rejT; rw [if_neg (by omega), if_neg (by omega), if_neg (by omega), if_neg (by omega), if_neg (by omega), if_pos (by omega), hf.out, dup_y hlt (by assumption)]; rfl; done) | (unfold rejT; rw [if_neg (by omega), if_neg (by omega), if_neg (by omega), if_neg (by omega), if_neg (by omega), if_pos (by omega), hf.out, show t.kids.length - i = 0 from by omega]; rfl; done) | (rw [rejT_no (by omega)]; rfl; done) | (exfalso; simp_all; done))
            ·intro b44
             have c44 := b44
             try simp only [ne_eq, beq_eq_false_iff_ne] at c44
             refine X_skip ?_
             show X _ _ _ _
             refine X_seq ?_
             refine X_rg fun R hR => ?_
             simp only [inr_i64, Int.reduceLE, Int.reduceNeg, aops, astep, awant, aeff, aop, ev, ofValue, St.put, zgd, zmo, if_true, zs1, zs0, and_self, emp_ok, b44]
             with_reducible refine hR _ ?_
             clear hR R
             show X _ _ _ _
             refine X_ret ?_
             show resD _ _ _ = some _
             simp only [resD, resAll, resOne, resTup, Try.results51, EVP, zg1, zg0, D.good, if_true, zmo] <;> (first | (simp [rejT, c2, c14, c40, c44, hn18, hn62, hn78, hn94]; rfl; done) | (simp [rejT, c2, c12, c14, c18, c26, c34, c40, c44, hn18, hn62, hn78, hn94]; done) | (simp [rejT, c2, c12, c14, c18, c26, c34, c40, c44, hn18, hn62, hn78, hn94, hf.out, dup_y hlt (by assumption), nmE]; done) | (simp [rejT, c2, c12, c14, c18, c26, c34, c40, c44, hn18, hn62, hn78, hn94, hf.out, show t.kids.length - i = 0 from by omega, dupN, nmE]; rfl; done) | (unfold rejT; rw [if_neg (by omega), if_pos (by omega)]; simp [c2, c12, c14, c18, c26, c34, c40, c44, hn18, hn62, hn78, hn94]; done) | (unfold rejT; rw [if_neg (by omega), if_pos (by omega)]; simp [c2, c12, c14, c18, c26, c34, c40, c44, hn18, hn62, hn78, hn94]; rfl; done) | (unfold rejT; rw [if_neg (by omega), if_neg (by omega), if_neg (by omega), if_pos (by omega)]; simp [c2, c12, c14, c18, c26, c34, c40, c44, hn18, hn62, hn78, hn94]; done) | (unfold rejT; rw [if_neg (by omega), if_neg (by omega), if_neg (by omega), if_neg (by omega), if_pos (by omega)]; simp [c2, c12, c14, c18, c26, c34, c40, c44, hn18, hn62, hn78, hn94]; done) | (unfold rejT; rw [if_neg (by omega), if_neg (by omega), if_neg (by omega), if_neg (by omega), if_neg (by omega), if_pos (by omega), hf.out, dup_y hlt (by assumption)]; rfl; done) | (unfold rejT; rw [if_neg (by omega), if_neg (by omega), if_neg (by omega), if_neg (by omega), if_neg (by omega), if_pos (by omega), hf.out, show t.kids.length - i = 0 from by omega]; rfl; done) | (rw [rejT_no (by omega)]; rfl; done) | (exfalso; simp_all; done))
end Go.Proofs.Ytmglacjcefajlaa
