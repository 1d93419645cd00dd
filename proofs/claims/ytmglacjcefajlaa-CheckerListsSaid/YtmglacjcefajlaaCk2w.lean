/- The specification of reject. -/
import Derived.Test.YtmglacjcefajlaaCk2
namespace Go.Proofs.Ytmglacjcefajlaa
open Go.RowKit

set_option maxRecDepth 100000 in
set_option maxHeartbeats 4000000 in
theorem why_fn (t : Tr) (hst : stmtB t = true) (hs : t.size ≤ 1000000) : fn EV 41 [dN t] = some (.tup [.int .i64 (rejT t).2, .str (rejT t).1]) := by
 have hok : okN t := .inr (.inl hst)
 obtain ⟨NM, hNM⟩ : ∃ l : List ByteArray, l = [(kidN t 0).name, (kidN t 1).name] := ⟨_, rfl⟩
 have hNl : NM.length = 2 := by rw [hNM]; rfl
 have hnm := stmt_name hst
 have hkl := t.kids_len
 have hkc : ∀ x ∈ t.kids, x.size ≤ 1000000 ∧ itemOk x := fun x hx => ⟨by have := Tr.kid_size hx; omega, okN_item (okN_kids hok x hx)⟩
 refine fn_X rfl Try.func41 rfl (by simp only [plain, List.all_cons, List.all_nil, dN_pl, Bool.and_true]) (rfl) (rfl) (rfl) ?_
 simp only [zmc, zmn, dN_strip]
 simp only [enterSt, Try.ntmps41, zlc, zln, Nat.reduceAdd, Nat.reduceSub, zr1, zr0, zca, zna]
 refine X_seq ?_
 refine X_rg fun R hR => ?_
 simp only [inr_i64, Int.reduceLE, Int.reduceNeg, aops, astep, awant, aeff, aop, ev, ofValue, St.put, zg0, zgd, zmo, if_true, zs1, zs0, zln, zna, and_self, dN_cells, dN_good, sl, emp_ok]
 with_reducible refine hR _ ?_
 clear hR R
 show X _ _ _ _
 refine X_seq ?_
 refine X_seq ?_
 refine X_rg fun R hR => ?_
 simp only [EVP, aops, astep, awant, aeff, aop, mkD, ev, St.put, ia_int, zg1, zg0, zgd, zmo, if_true, zs1, zs0, zlc, zln, zd0, zt1, zt0, Nat.reduceAdd, Nat.reduceLeDiff, Nat.zero_add, Nat.add_zero, zft, if_false, reduceCtorEq, ty_uint8, ty_api_Node]
 with_reducible refine hR _ ?_
 clear hR R
 show X _ _ _ _
 refine X_block ?_
 refine X_seq ?_
 refine X_rg fun R hR => ?_
 simp only [inr_u8, Int.reduceLE, aops, astep, awant, aeff, aop, abin, aint, ev, ofValue, St.put, zg1, zg0, zgd, zmo, if_true, zs1, zs0, and_self]
 with_reducible refine hR _ ?_
 clear hR R
 show X _ _ _ _
 refine X_ite (by simp only [ev, zg1, zg0, zgd]; exact rfl) ?_ ?_
 ·intro b1
  have c1 := b1
  try simp only [beq_iff_eq] at c1
  refine X_seq ?_
  have hlen := (okN_len hok).1 (by first | (simp [*]; done) | omega)
  have hlt0 : 0 < t.kids.length := by omega
  have hn0 := kid_n hlt0
  have he0 := kid_e hlt0
  have hl0 : ((0 : Int) < (t.kids.length : Int)) = True := eq_true (by omega)
  refine X_rg fun R hR => ?_
  simp only [EVP, inr_i64, Int.reduceLE, Int.reduceNeg, aops, astep, awant, aeff, aop, mkD, ev, ofValue, St.put, ia_str, cl_str, ia_slice, zg1, zg0, zgd, zmo, if_true, zs1, zs0, zlm, zlc, zln, zd1, zd0, zt1, zt0, Nat.reduceAdd, Nat.reduceLeDiff, Nat.zero_add, zft, if_false, and_self, reduceCtorEq, zis, ty_string, ty_s_api_Node, ty_api_Node, und_api_Node, siz_api_Node, inf_api_Node_eq, sl, b1, hn0, he0, hl0, Int.toNat_zero, dN_eq (kidN t 0)]
  with_reducible refine hR _ ?_
  clear hR R
  show X _ _ _ _
  refine X_ret ?_
  show resD _ _ _ = some _
  simp only [resD, resAll, resOne, resTup, Try.results41, EVP, zg1, zg0, D.good, if_true, zmo] <;> (first | (simp [rejT, c1]; rfl; done) | (simp [rejT, c1]; done) | (simp [rejT, c1, al2_one hlen, al1, nmE, hnm.1, hnm.2]; done) | (simp [rejT, c1, al2_one hlen, al1, nmE, hnm.1, hnm.2]; rfl; done) | (simp [rejT, c1, hf.out, al2_y hlt (hg.out.trans (al1_y hjN (by assumption))), nmE, ← hNM]; done) | (simp [rejT, c1, hf.out, al2_e (c := t.kids) (i := i) (by omega), nmE, ← hNM]; rfl; done) | (unfold rejT; rw [if_neg (by omega), if_pos (by omega)]; simp [c1]; done) | (unfold rejT; rw [if_neg (by omega), if_pos (by omega)]; simp [c1]; rfl; done) | (unfold rejT; rw [if_neg (by omega), if_neg (by omega), if_neg (by omega), if_neg (by omega), if_neg (by omega), if_pos (by omega), hf.out, dup_y hlt (any_true_at (p := fun m : Tr => m.name.toList == t.kids[i].name.toList) (l := t.kids.take i) (i := j) (by simp; omega) (by simp only [List.getElem_take]; rw [eqc]; assumption))]; rfl; done) | (unfold rejT; rw [if_neg (by omega), if_neg (by omega), if_neg (by omega), if_neg (by omega), if_neg (by omega), if_pos (by omega), hf.out, show t.kids.length - i = 0 from by omega]; rfl; done) | (rw [rejT_no (by omega)]; rfl; done) | (exfalso; simp_all; done))
 ·intro b2
  have c2 := b2
  try simp only [ne_eq, beq_eq_false_iff_ne] at c2
  refine X_seqJ (fun σ => ∃ (g27 : Bool), σ = ⟨[slotOf σ 0, .ptr 0 0, slotOf σ 2, slotOf σ 3, slotOf σ 4, slotOf σ 5, slotOf σ 6, slotOf σ 7, slotOf σ 8, slotOf σ 9, slotOf σ 10, slotOf σ 11, slotOf σ 12, slotOf σ 13, slotOf σ 14, slotOf σ 15, slotOf σ 16, slotOf σ 17, slotOf σ 18, .int .u8 t.kind, slotOf σ 20, slotOf σ 21, slotOf σ 22, slotOf σ 23, slotOf σ 24, slotOf σ 25, slotOf σ 26, .bool g27, slotOf σ 28, slotOf σ 29, slotOf σ 30, slotOf σ 31, slotOf σ 32, slotOf σ 33, slotOf σ 34, slotOf σ 35, slotOf σ 36, slotOf σ 37, slotOf σ 38, slotOf σ 39, slotOf σ 40, slotOf σ 41, slotOf σ 42, slotOf σ 43, slotOf σ 44, slotOf σ 45, slotOf σ 46, slotOf σ 47, slotOf σ 48, slotOf σ 49, slotOf σ 50, slotOf σ 51, slotOf σ 52, slotOf σ 53, slotOf σ 54, slotOf σ 55, slotOf σ 56, slotOf σ 57, slotOf σ 58, slotOf σ 59, slotOf σ 60, slotOf σ 61, slotOf σ 62, slotOf σ 63, slotOf σ 64, slotOf σ 65, slotOf σ 66, slotOf σ 67, slotOf σ 68, slotOf σ 69, slotOf σ 70, slotOf σ 71, slotOf σ 72, slotOf σ 73, slotOf σ 74, slotOf σ 75, slotOf σ 76, slotOf σ 77, slotOf σ 78, slotOf σ 79, slotOf σ 80, slotOf σ 81, slotOf σ 82, slotOf σ 83, slotOf σ 84, slotOf σ 85, slotOf σ 86, slotOf σ 87, slotOf σ 88, slotOf σ 89, slotOf σ 90, slotOf σ 91, slotOf σ 92, slotOf σ 93, slotOf σ 94, slotOf σ 95, slotOf σ 96, slotOf σ 97, slotOf σ 98, slotOf σ 99, slotOf σ 100, slotOf σ 101, slotOf σ 102, slotOf σ 103, slotOf σ 104, slotOf σ 105, slotOf σ 106, slotOf σ 107, slotOf σ 108, slotOf σ 109, slotOf σ 110, slotOf σ 111, slotOf σ 112, slotOf σ 113, slotOf σ 114, slotOf σ 115, slotOf σ 116, slotOf σ 117, slotOf σ 118, slotOf σ 119, slotOf σ 120, slotOf σ 121, slotOf σ 122, slotOf σ 123, slotOf σ 124, slotOf σ 125, slotOf σ 126, slotOf σ 127, slotOf σ 128, slotOf σ 129, slotOf σ 130, slotOf σ 131, slotOf σ 132, slotOf σ 133, slotOf σ 134, slotOf σ 135, slotOf σ 136, slotOf σ 137, slotOf σ 138, slotOf σ 139, slotOf σ 140, slotOf σ 141, slotOf σ 142, slotOf σ 143, slotOf σ 144, slotOf σ 145, slotOf σ 146, slotOf σ 147, slotOf σ 148, slotOf σ 149, slotOf σ 150, slotOf σ 151, slotOf σ 152, slotOf σ 153, slotOf σ 154, slotOf σ 155, slotOf σ 156, slotOf σ 157, slotOf σ 158, slotOf σ 159, slotOf σ 160, slotOf σ 161, slotOf σ 162, slotOf σ 163, slotOf σ 164, slotOf σ 165, slotOf σ 166, slotOf σ 167, slotOf σ 168, slotOf σ 169, slotOf σ 170, slotOf σ 171, slotOf σ 172, slotOf σ 173, slotOf σ 174, slotOf σ 175, slotOf σ 176, slotOf σ 177, slotOf σ 178, slotOf σ 179, slotOf σ 180, slotOf σ 181, slotOf σ 182], [[.int .u8 t.kind, .int .i64 t.num, .str t.name, .slice .imm (if (t.kids.map dN).isEmpty = true then 0 else 4) (t.kids.map dN)]], 0, []⟩ ∧ g27 = decide (t.kind = 40 ∨ t.kind = 41 ∨ t.kind = 42)) ?_ ?_
  ·skip
   refine X_seq ?_
   refine X_rg fun R hR => ?_
   simp only [inr_u8, Int.reduceLE, aops, astep, awant, aeff, aop, abin, aint, ev, ofValue, St.put, zg1, zg0, zgd, zmo, if_true, zs1, zs0, and_self, b2]
   with_reducible refine hR _ ?_
   clear hR R
   show X _ _ _ _
   refine X_ite (by simp only [ev, zg1, zg0, zgd]; exact rfl) ?_ ?_
   ·intro b3
    have c3 := b3
    try simp only [beq_iff_eq] at c3
    refine X_skip ?_
    exact ⟨_, rfl, by first | (simp [c3]; done) | (simp [c2, c3]; rfl)⟩
   ·intro b4
    have c4 := b4
    try simp only [ne_eq, beq_eq_false_iff_ne] at c4
    refine X_seq ?_
    refine X_rg fun R hR => ?_
    simp only [inr_u8, Int.reduceLE, aops, astep, awant, aeff, aop, abin, aint, ev, ofValue, St.put, zg1, zg0, zgd, zmo, if_true, zs1, zs0, and_self, b4]
    with_reducible refine hR _ ?_
    clear hR R
    show X _ _ _ _
    refine X_ite (by simp only [ev, zg1, zg0, zgd]; exact rfl) ?_ ?_
    ·intro b5
     have c5 := b5
     try simp only [beq_iff_eq] at c5
     refine X_skip ?_
     exact ⟨_, rfl, by first | (simp [c5]; done) | (simp [c2, c4, c5]; rfl)⟩
    ·intro b6
     have c6 := b6
     try simp only [ne_eq, beq_eq_false_iff_ne] at c6
     refine X_rg fun R hR => ?_
     simp only [inr_u8, Int.reduceLE, aops, astep, awant, aeff, aop, abin, aint, ev, ofValue, St.put, zg1, zg0, zgd, zmo, if_true, zs1, zs0, and_self, b6]
     with_reducible refine hR _ ?_
     clear hR R
     exact ⟨_, rfl, by first | (simp [c4, c6]; done) | (simp [c4, c6]; rfl)⟩
  ·skip
   rintro σ ⟨g27, hσ, hg27⟩
   generalize slotOf σ = x at hσ
   subst hσ
   refine X_ite (by simp only [ev, zg1, zg0, zgd]; exact rfl) ?_ ?_
   ·intro b7
    have c7 := b7
    try simp only [znt, znf, decide_eq_true_eq, decide_eq_false_iff_not, beq_iff_eq, Int.not_lt, Int.not_le, ge_iff_le, gt_iff_lt, bne_iff_ne, ne_eq, bne_eq_false_iff_eq, beq_eq_false_iff_ne, zat, zof] at c7
    have hk27 := of_decide_eq_true (hg27.symm.trans b7)
    refine X_seq ?_
    have hlen := (okN_len hok).1 (by first | (simp [*]; done) | omega)
    have hlt0 : 0 < t.kids.length := by omega
    have hn0 := kid_n hlt0
    have he0 := kid_e hlt0
    have hl0 : ((0 : Int) < (t.kids.length : Int)) = True := eq_true (by omega)
    refine X_rg fun R hR => ?_
    simp only [EVP, inr_i64, Int.reduceLE, Int.reduceNeg, aops, astep, awant, aeff, aop, mkD, ev, ofValue, St.put, ia_str, cl_str, ia_slice, zg1, zg0, zgd, zmo, if_true, zs1, zs0, zlm, zlc, zln, zd1, zd0, zt1, zt0, Nat.reduceAdd, Nat.reduceLeDiff, Nat.zero_add, zft, if_false, and_self, reduceCtorEq, zis, ty_string, ty_s_api_Node, ty_api_Node, und_api_Node, siz_api_Node, inf_api_Node_eq, sl, b7, hn0, he0, hl0, Int.toNat_zero, dN_eq (kidN t 0)]
    with_reducible refine hR _ ?_
    clear hR R
    show X _ _ _ _
    refine X_seq ?_
    have hlen := (okN_len hok).1 (by first | (simp [*]; done) | omega)
    have hlt0 : 0 < t.kids.length := by omega
    have hn0 := kid_n hlt0
    have he0 := kid_e hlt0
    have hl0 : ((0 : Int) < (t.kids.length : Int)) = True := eq_true (by omega)
    have hlt1 : 1 < t.kids.length := by omega
    have hn1 := kid_n hlt1
    have he1 := kid_e hlt1
    have hl1 : ((1 : Int) < (t.kids.length : Int)) = True := eq_true (by omega)
    have hz0 := kidN_size (i := 0) hs
    have hi0 := okN_item (okN_kid hok hlt0)
    have hI := lidx_fn (kidN t 0).name (kidN t 0) hz0 hi0
    have hM := lment_fn (kidN t 0).name (kidN t 1) (kidN_size hs)
    refine X_y ?_
    refine Y_k 7 fun R hR => ?_
    simp only [EVP, inr_i64, Int.reduceLE, Int.reduceNeg, aops, astep, awant, aeff, aop, mkD, ev, ofValue, St.put, pcall, ia_slice, zmc, zmn, zg1, zg0, zgd, zmo, if_true, zs1, zs0, zlm, zlc, zln, zd1, zd0, zt1, zt0, zca, zna, Nat.reduceAdd, Nat.reduceLeDiff, Nat.zero_add, zft, if_false, and_self, reduceCtorEq, zis, ty_s_api_Node, ty_api_Node, und_api_Node, siz_api_Node, inf_api_Node_eq, any65, dN_agg, dN_cells, dN_isAgg, sl, hn0, he0, hl0, Int.toNat_zero, hI]
    with_reducible refine hR _ ?_
    clear hR R
    simp only [zd1, zd0]
    refine Y_if 42 (by simp only [ev, zg1, zg0, zgd]; exact rfl) ?_ ?_
    ·intro b8
     have c8 := b8
     try simp only [znt, znf, decide_eq_true_eq, decide_eq_false_iff_not, beq_iff_eq, Int.not_lt, Int.not_le, ge_iff_le, gt_iff_lt, bne_iff_ne, ne_eq, bne_eq_false_iff_eq, beq_eq_false_iff_ne, zat, zof] at c8
     refine Y_end fun R hR => ?_
     simp only [EVP, aops, astep, awant, aeff, aop, ev, ofValue, St.put, pcall, zmc, zmn, zg1, zg0, zgd, zmo, Option.map_none, zbs, if_true, zs1, zs0, zca, zna, Nat.zero_add, zft, if_false, reduceCtorEq, bq_tf, ty_s_api_Node, ty_api_Node, und_api_Node, any66, b8]
     with_reducible refine hR _ ?_
     clear hR R
     show X _ _ _ _
     refine X_true (by simp only [ev, zg1, zg0, zgd]) ?_
     refine X_seq ?_
     refine X_rg fun R hR => ?_
     simp only [inr_i64, Int.reduceLE, Int.reduceNeg, aops, astep, awant, aeff, aop, ev, ofValue, St.put, zg1, zg0, zgd, zmo, if_true, zs1, zs0, and_self]
     with_reducible refine hR _ ?_
     clear hR R
     show X _ _ _ _
     refine X_ret ?_
     show resD _ _ _ = some _
     simp only [resD, resAll, resOne, resTup, Try.results41, EVP, zg1, zg0, D.good, if_true, zmo] <;> (first | (simp [rejT, c2, c8, hk27]; rfl; done) | (simp [rejT, c2, c8, hk27]; done) | (simp [rejT, c2, c7, c8, hk27, al2_one hlen, al1, nmE, hnm.1, hnm.2]; done) | (simp [rejT, c2, c7, c8, hk27, al2_one hlen, al1, nmE, hnm.1, hnm.2]; rfl; done) | (simp [rejT, c2, c7, c8, hk27, hf.out, al2_y hlt (hg.out.trans (al1_y hjN (by assumption))), nmE, ← hNM]; done) | (simp [rejT, c2, c7, c8, hk27, hf.out, al2_e (c := t.kids) (i := i) (by omega), nmE, ← hNM]; rfl; done) | (unfold rejT; rw [if_neg (by omega), if_pos (by omega)]; simp [c2, c7, c8, hk27]; done) | (unfold rejT; rw [if_neg (by omega), if_pos (by omega)]; simp [c2, c7, c8, hk27]; rfl; done) | (unfold rejT; rw [if_neg (by omega), if_neg (by omega), if_neg (by omega), if_neg (by omega), if_neg (by omega), if_pos (by omega), hf.out, dup_y hlt (any_true_at (p := fun m : Tr => m.name.toList == t.kids[i].name.toList) (l := t.kids.take i) (i := j) (by simp; omega) (by simp only [List.getElem_take]; rw [eqc]; assumption))]; rfl; done) | (unfold rejT; rw [if_neg (by omega), if_neg (by omega), if_neg (by omega), if_neg (by omega), if_neg (by omega), if_pos (by omega), hf.out, show t.kids.length - i = 0 from by omega]; rfl; done) | (rw [rejT_no (by omega)]; rfl; done) | (exfalso; simp_all; done))
    ·intro b9
     have c9 := b9
     try simp only [znt, znf, decide_eq_true_eq, decide_eq_false_iff_not, beq_iff_eq, Int.not_lt, Int.not_le, ge_iff_le, gt_iff_lt, bne_iff_ne, ne_eq, bne_eq_false_iff_eq, beq_eq_false_iff_ne, zat, zof] at c9
     refine Y_end fun R hR => ?_
     simp only [EVP, inr_i64, Int.reduceLE, Int.reduceNeg, aops, astep, awant, aeff, aop, mkD, ev, ofValue, St.put, pcall, ia_slice, zmc, zmn, zg1, zg0, zgd, zmo, zbs, if_true, zs1, zs0, zlm, zlc, zln, zd1, zd0, zt1, zt0, zca, zna, Nat.reduceAdd, Nat.reduceLeDiff, Nat.zero_add, zft, if_false, and_self, reduceCtorEq, beq_self_eq_true, zis, ty_s_api_Node, ty_api_Node, und_api_Node, siz_api_Node, inf_api_Node_eq, any66, dN_cells, dN_isAgg, sl, b9, hn0, he1, hl1, Int.toNat_one, hM]
     with_reducible refine hR _ ?_
     clear hR R
     show X _ _ _ _
     refine X_ite (by simp only [ev, zg1, zg0, zgd]; exact rfl) ?_ ?_
     ·intro b10
      have c10 := b10
      try simp only [znt, znf, decide_eq_true_eq, decide_eq_false_iff_not, beq_iff_eq, Int.not_lt, Int.not_le, ge_iff_le, gt_iff_lt, bne_iff_ne, ne_eq, bne_eq_false_iff_eq, beq_eq_false_iff_ne, zat, zof] at c10
      refine X_seq ?_
      refine X_rg fun R hR => ?_
      simp only [inr_i64, Int.reduceLE, Int.reduceNeg, aops, astep, awant, aeff, aop, ev, ofValue, St.put, zg1, zg0, zgd, zmo, if_true, zs1, zs0, and_self, b10]
      with_reducible refine hR _ ?_
      clear hR R
      show X _ _ _ _
      refine X_ret ?_
      show resD _ _ _ = some _
      simp only [resD, resAll, resOne, resTup, Try.results41, EVP, zg1, zg0, D.good, if_true, zmo] <;> (first | (simp [rejT, c2, c9, c10, hk27]; rfl; done) | (simp [rejT, c2, c9, c10, hk27]; done) | (simp [rejT, c2, c7, c9, c10, hk27, al2_one hlen, al1, nmE, hnm.1, hnm.2]; done) | (simp [rejT, c2, c7, c9, c10, hk27, al2_one hlen, al1, nmE, hnm.1, hnm.2]; rfl; done) | (simp [rejT, c2, c7, c9, c10, hk27, hf.out, al2_y hlt (hg.out.trans (al1_y hjN (by assumption))), nmE, ← hNM]; done) | (simp [rejT, c2, c7, c9, c10, hk27, hf.out, al2_e (c := t.kids) (i := i) (by omega), nmE, ← hNM]; rfl; done) | (unfold rejT; rw [if_neg (by omega), if_pos (by omega)]; simp [c2, c7, c9, c10, hk27]; done) | (unfold rejT; rw [if_neg (by omega), if_pos (by omega)]; simp [c2, c7, c9, c10, hk27]; rfl; done) | (unfold rejT; rw [if_neg (by omega), if_neg (by omega), if_neg (by omega), if_neg (by omega), if_neg (by omega), if_pos (by omega), hf.out, dup_y hlt (any_true_at (p := fun m : Tr => m.name.toList == t.kids[i].name.toList) (l := t.kids.take i) (i := j) (by simp; omega) (by simp only [List.getElem_take]; rw [eqc]; assumption))]; rfl; done) | (unfold rejT; rw [if_neg (by omega), if_neg (by omega), if_neg (by omega), if_neg (by omega), if_neg (by omega), if_pos (by omega), hf.out, show t.kids.length - i = 0 from by omega]; rfl; done) | (rw [rejT_no (by omega)]; rfl; done) | (exfalso; simp_all; done))
     ·intro b11
      have c11 := b11
      try simp only [znt, znf, decide_eq_true_eq, decide_eq_false_iff_not, beq_iff_eq, Int.not_lt, Int.not_le, ge_iff_le, gt_iff_lt, bne_iff_ne, ne_eq, bne_eq_false_iff_eq, beq_eq_false_iff_ne, zat, zof] at c11
      refine X_skip ?_
      show X _ _ _ _
      refine X_seq ?_
      refine X_rg fun R hR => ?_
      simp only [inr_i64, Int.reduceLE, Int.reduceNeg, aops, astep, awant, aeff, aop, ev, ofValue, St.put, zgd, zmo, if_true, zs1, zs0, and_self, emp_ok, b11]
      with_reducible refine hR _ ?_
      clear hR R
      show X _ _ _ _
      refine X_ret ?_
      show resD _ _ _ = some _
      simp only [resD, resAll, resOne, resTup, Try.results41, EVP, zg1, zg0, D.good, if_true, zmo] <;> (first | (simp [rejT, c2, c9, c11, hk27]; rfl; done) | (simp [rejT, c2, c7, c9, c11, hk27]; done) | (simp [rejT, c2, c7, c9, c11, hk27, al2_one hlen, al1, nmE, hnm.1, hnm.2]; done) | (simp [rejT, c2, c7, c9, c11, hk27, al2_one hlen, al1, nmE, hnm.1, hnm.2]; rfl; done) | (simp [rejT, c2, c7, c9, c11, hk27, hf.out, al2_y hlt (hg.out.trans (al1_y hjN (by assumption))), nmE, ← hNM]; done) | (simp [rejT, c2, c7, c9, c11, hk27, hf.out, al2_e (c := t.kids) (i := i) (by omega), nmE, ← hNM]; rfl; done) | (unfold rejT; rw [if_neg (by omega), if_pos (by omega)]; simp [c2, c7, c9, c11, hk27]; done) | (unfold rejT; rw [if_neg (by omega), if_pos (by omega)]; simp [c2, c7, c9, c11, hk27]; rfl; done) | (unfold rejT; rw [if_neg (by omega), if_neg (by omega), if_neg (by omega), if_neg (by omega), if_neg (by omega), if_pos (by omega), hf.out, dup_y hlt (any_true_at (p := fun m : Tr => m.name.toList == t.kids[i].name.toList) (l := t.kids.take i) (i := j) (by simp; omega) (by simp only [List.getElem_take]; rw [eqc]; assumption))]; rfl; done) | (unfold rejT; rw [if_neg (by omega), if_neg (by omega), if_neg (by omega), if_neg (by omega), if_neg (by omega), if_pos (by omega), hf.out, show t.kids.length - i = 0 from by omega]; rfl; done) | (rw [rejT_no (by omega)]; rfl; done) | (exfalso; simp_all; done))
   ·intro b12
    have c12 := b12
    try simp only [znt, znf, decide_eq_true_eq, decide_eq_false_iff_not, beq_iff_eq, Int.not_lt, Int.not_le, ge_iff_le, gt_iff_lt, bne_iff_ne, ne_eq, bne_eq_false_iff_eq, beq_eq_false_iff_ne, zat, zof] at c12
    have hn27 := of_decide_eq_false (hg27.symm.trans b12)
    refine X_seq ?_
    refine X_rg fun R hR => ?_
    simp only [inr_u8, Int.reduceLE, aops, astep, awant, aeff, aop, abin, aint, ev, ofValue, St.put, zg1, zg0, zgd, zmo, if_true, zs1, zs0, and_self, b12]
    with_reducible refine hR _ ?_
    clear hR R
    show X _ _ _ _
    refine X_ite (by simp only [ev, zg1, zg0, zgd]; exact rfl) ?_ ?_
    ·intro b13
     have c13 := b13
     try simp only [beq_iff_eq] at c13
     refine X_seq ?_
     refine X_rg fun R hR => ?_
     simp only [EVP, inr_i64, Int.reduceLE, Int.reduceNeg, aops, astep, awant, aeff, aop, mkD, ev, ofValue, St.put, ia_slice, zg1, zg0, zgd, zmo, if_true, zs1, zs0, zlm, zlc, zln, zd1, zd0, zt1, zt0, Nat.reduceAdd, Nat.reduceLeDiff, Nat.zero_add, zft, if_false, and_self, reduceCtorEq, ty_s_api_Node, ty_api_Node, und_api_Node, b13]
     with_reducible refine hR _ ?_
     clear hR R
     show X _ _ _ _
     refine X_block ?_
     refine X_loop (fun m σ => ∃ (i : Nat) (r : List (List D)) (nx : Nat) (lv : List Nat), σ = ⟨[slotOf σ 0, .ptr 0 0, slotOf σ 2, slotOf σ 3, slotOf σ 4, slotOf σ 5, slotOf σ 6, slotOf σ 7, slotOf σ 8, slotOf σ 9, slotOf σ 10, slotOf σ 11, slotOf σ 12, slotOf σ 13, slotOf σ 14, slotOf σ 15, slotOf σ 16, slotOf σ 17, slotOf σ 18, slotOf σ 19, slotOf σ 20, slotOf σ 21, slotOf σ 22, slotOf σ 23, slotOf σ 24, slotOf σ 25, slotOf σ 26, slotOf σ 27, slotOf σ 28, slotOf σ 29, slotOf σ 30, slotOf σ 31, slotOf σ 32, slotOf σ 33, slotOf σ 34, slotOf σ 35, slotOf σ 36, slotOf σ 37, slotOf σ 38, slotOf σ 39, slotOf σ 40, slotOf σ 41, slotOf σ 42, slotOf σ 43, slotOf σ 44, slotOf σ 45, slotOf σ 46, slotOf σ 47, slotOf σ 48, slotOf σ 49, slotOf σ 50, slotOf σ 51, slotOf σ 52, slotOf σ 53, .slice .imm (if (t.kids.map dN).isEmpty = true then 0 else 4) (t.kids.map dN), .int .i64 t.kids.length, .int .i64 i, slotOf σ 57, slotOf σ 58, slotOf σ 59, slotOf σ 60, slotOf σ 61, slotOf σ 62, slotOf σ 63, slotOf σ 64, slotOf σ 65, slotOf σ 66, slotOf σ 67, slotOf σ 68, slotOf σ 69, slotOf σ 70, slotOf σ 71, slotOf σ 72, slotOf σ 73, slotOf σ 74, slotOf σ 75, slotOf σ 76, slotOf σ 77, slotOf σ 78, slotOf σ 79, slotOf σ 80, slotOf σ 81, slotOf σ 82, slotOf σ 83, slotOf σ 84, slotOf σ 85, slotOf σ 86, slotOf σ 87, slotOf σ 88, slotOf σ 89, slotOf σ 90, slotOf σ 91, slotOf σ 92, slotOf σ 93, slotOf σ 94, slotOf σ 95, slotOf σ 96, slotOf σ 97, slotOf σ 98, slotOf σ 99, slotOf σ 100, slotOf σ 101, slotOf σ 102, slotOf σ 103, slotOf σ 104, slotOf σ 105, slotOf σ 106, slotOf σ 107, slotOf σ 108, slotOf σ 109, slotOf σ 110, slotOf σ 111, slotOf σ 112, slotOf σ 113, slotOf σ 114, slotOf σ 115, slotOf σ 116, slotOf σ 117, slotOf σ 118, slotOf σ 119, slotOf σ 120, slotOf σ 121, slotOf σ 122, slotOf σ 123, slotOf σ 124, slotOf σ 125, slotOf σ 126, slotOf σ 127, slotOf σ 128, slotOf σ 129, slotOf σ 130, slotOf σ 131, slotOf σ 132, slotOf σ 133, slotOf σ 134, slotOf σ 135, slotOf σ 136, slotOf σ 137, slotOf σ 138, slotOf σ 139, slotOf σ 140, slotOf σ 141, slotOf σ 142, slotOf σ 143, slotOf σ 144, slotOf σ 145, slotOf σ 146, slotOf σ 147, slotOf σ 148, slotOf σ 149, slotOf σ 150, slotOf σ 151, slotOf σ 152, slotOf σ 153, slotOf σ 154, slotOf σ 155, slotOf σ 156, slotOf σ 157, slotOf σ 158, slotOf σ 159, slotOf σ 160, slotOf σ 161, slotOf σ 162, slotOf σ 163, slotOf σ 164, slotOf σ 165, slotOf σ 166, slotOf σ 167, slotOf σ 168, slotOf σ 169, slotOf σ 170, slotOf σ 171, slotOf σ 172, slotOf σ 173, slotOf σ 174, slotOf σ 175, slotOf σ 176, slotOf σ 177, slotOf σ 178, slotOf σ 179, slotOf σ 180, slotOf σ 181, slotOf σ 182], [.int .u8 t.kind, .int .i64 t.num, .str t.name, .slice .imm (if (t.kids.map dN).isEmpty = true then 0 else 4) (t.kids.map dN)] :: r, nx, lv⟩ ∧ m = t.kids.length - i ∧ i ≤ t.kids.length ∧ Hid (al2 t.kids NM = al2 (t.kids.drop i) NM)) ?_ (t.kids.length) _ ?_
     rotate_left
     ·exact ⟨0, [], 0, [], rfl, rfl, Nat.zero_le _, Lib.hid rfl⟩
     rintro m σ ⟨i, r, nx, lv, hσ, rfl, hi, hf⟩
     generalize slotOf σ = x at hσ
     subst hσ
     refine X_seq ?_
     refine X_rg fun R hR => ?_
     simp only [nat_lt, aops, astep, awant, aeff, aop, abin, aint, ev, St.put, zg1, zg0, zgd, zmo, if_true, zs1, zs0]
     with_reducible refine hR _ ?_
     clear hR R
     show X _ _ _ _
     refine X_seq ?_
     refine X_ite (by simp only [ev, zg1, zg0, zgd]; exact rfl) ?_ ?_
     ·intro b14
      have c14 := b14
      try simp only [decide_eq_true_eq] at c14
      refine X_skip ?_
      show X _ _ _ _
      refine X_seq ?_
      refine X_block ?_
      refine X_seq ?_
      have hlt : i < t.kids.length := by first | assumption | omega
      have hn1 := kid_n hlt
      have e1 : (t.kids.map dN)[i]? = some (dN t.kids[i]) := by simp [hlt]
      refine X_rg fun R hR => ?_
      simp only [EVP, app_get0, app_set0, nat_lt, nat_0, nat_to, aops, astep, awant, aeff, aop, astore, ev, St.put, zg1, zg0, zgd, zmo, zbs, if_true, zs1, zs0, zlm, zlc, zln, zd1, zd0, zt0, zca, zna, Nat.reduceAdd, Nat.reduceLeDiff, Nat.zero_add, and_self, decide_true, zis, ty_api_Node, und_api_Node, siz_api_Node, inf_api_Node_eq, dN_cells, dN_isAgg, dN_good, sl, hlt, hn1, e1]
      with_reducible refine hR _ ?_
      clear hR R
      show X _ _ _ _
      refine X_seq ?_
      have hlen := (okN_len hok).1 (by first | (simp [*]; done) | omega)
      have hlt0 : 0 < t.kids.length := by omega
      have hn0 := kid_n hlt0
      have he0 := kid_e hlt0
      have hl0 : ((0 : Int) < (t.kids.length : Int)) = True := eq_true (by omega)
      have hlt1 : 1 < t.kids.length := by omega
      have hn1 := kid_n hlt1
      have he1 := kid_e hlt1
      have hl1 : ((1 : Int) < (t.kids.length : Int)) = True := eq_true (by omega)
      refine X_rg fun R hR => ?_
      simp only [EVP, inr_i64, Int.reduceLE, Int.reduceNeg, aops, astep, awant, aeff, aop, mkD, abuild, ev, ofValue, St.put, gd_str, ia_str, cl_str, ia_slice, zmc, zmn, zg1, zg0, zgd, zmo, if_true, zs1, zs0, zlm, zlc, zln, zd1, zd0, zt1, zt0, Nat.reduceAdd, Nat.reduceLeDiff, Nat.reduceLT, Nat.zero_add, Bool.and_true, zft, if_false, and_self, reduceCtorEq, List.all_cons, List.all_nil, beq_self_eq_true, zis, Nat.reduceMul, rng_2, ty_string, ty_s_api_Node, ty_api_Node, und_api_Node, siz_api_Node, inf_api_Node_eq, und_string, inf_string_eq, inf_string_size, inf_string_zero, sl, hn0, he0, hl0, he1, hl1, Int.toNat_zero, Int.toNat_one, dN_eq (kidN t 0), dN_eq (kidN t 1)]
      with_reducible refine hR _ ?_
      clear hR R
      show X _ _ _ _
      refine X_block ?_
      refine X_loop (fun m σ => ∃ (j : Nat), σ = ⟨[slotOf σ 0, .ptr 0 0, slotOf σ 2, slotOf σ 3, slotOf σ 4, slotOf σ 5, .ptr (r.length + 1) 0, slotOf σ 7, slotOf σ 8, slotOf σ 9, slotOf σ 10, slotOf σ 11, slotOf σ 12, slotOf σ 13, slotOf σ 14, slotOf σ 15, slotOf σ 16, slotOf σ 17, slotOf σ 18, slotOf σ 19, slotOf σ 20, slotOf σ 21, slotOf σ 22, slotOf σ 23, slotOf σ 24, slotOf σ 25, slotOf σ 26, slotOf σ 27, slotOf σ 28, slotOf σ 29, slotOf σ 30, slotOf σ 31, slotOf σ 32, slotOf σ 33, slotOf σ 34, slotOf σ 35, slotOf σ 36, slotOf σ 37, slotOf σ 38, slotOf σ 39, slotOf σ 40, slotOf σ 41, slotOf σ 42, slotOf σ 43, slotOf σ 44, slotOf σ 45, slotOf σ 46, slotOf σ 47, slotOf σ 48, slotOf σ 49, slotOf σ 50, slotOf σ 51, slotOf σ 52, slotOf σ 53, .slice .imm (if (t.kids.map dN).isEmpty = true then 0 else 4) (t.kids.map dN), .int .i64 t.kids.length, .int .i64 i, slotOf σ 57, slotOf σ 58, slotOf σ 59, slotOf σ 60, slotOf σ 61, slotOf σ 62, slotOf σ 63, slotOf σ 64, slotOf σ 65, slotOf σ 66, slotOf σ 67, slotOf σ 68, slotOf σ 69, .slice (.own nx 9) 1 (NM.map dS), .int .i64 2, .int .i64 j, slotOf σ 73, slotOf σ 74, slotOf σ 75, slotOf σ 76, slotOf σ 77, slotOf σ 78, slotOf σ 79, slotOf σ 80, slotOf σ 81, slotOf σ 82, slotOf σ 83, slotOf σ 84, slotOf σ 85, slotOf σ 86, slotOf σ 87, slotOf σ 88, slotOf σ 89, slotOf σ 90, slotOf σ 91, slotOf σ 92, slotOf σ 93, slotOf σ 94, slotOf σ 95, slotOf σ 96, slotOf σ 97, slotOf σ 98, slotOf σ 99, slotOf σ 100, slotOf σ 101, slotOf σ 102, slotOf σ 103, slotOf σ 104, slotOf σ 105, slotOf σ 106, slotOf σ 107, slotOf σ 108, slotOf σ 109, slotOf σ 110, slotOf σ 111, slotOf σ 112, slotOf σ 113, slotOf σ 114, slotOf σ 115, slotOf σ 116, slotOf σ 117, slotOf σ 118, slotOf σ 119, slotOf σ 120, slotOf σ 121, slotOf σ 122, slotOf σ 123, slotOf σ 124, slotOf σ 125, slotOf σ 126, slotOf σ 127, slotOf σ 128, slotOf σ 129, slotOf σ 130, slotOf σ 131, slotOf σ 132, slotOf σ 133, slotOf σ 134, slotOf σ 135, slotOf σ 136, slotOf σ 137, slotOf σ 138, slotOf σ 139, slotOf σ 140, slotOf σ 141, slotOf σ 142, slotOf σ 143, slotOf σ 144, slotOf σ 145, slotOf σ 146, slotOf σ 147, slotOf σ 148, slotOf σ 149, slotOf σ 150, slotOf σ 151, slotOf σ 152, slotOf σ 153, slotOf σ 154, slotOf σ 155, slotOf σ 156, slotOf σ 157, slotOf σ 158, slotOf σ 159, slotOf σ 160, slotOf σ 161, slotOf σ 162, slotOf σ 163, slotOf σ 164, slotOf σ 165, slotOf σ 166, slotOf σ 167, slotOf σ 168, slotOf σ 169, slotOf σ 170, slotOf σ 171, slotOf σ 172, slotOf σ 173, slotOf σ 174, slotOf σ 175, slotOf σ 176, slotOf σ 177, slotOf σ 178, slotOf σ 179, slotOf σ 180, slotOf σ 181, slotOf σ 182], [.int .u8 t.kind, .int .i64 t.num, .str t.name, .slice .imm (if (t.kids.map dN).isEmpty = true then 0 else 4) (t.kids.map dN)] :: (r ++ [[.int .u8 t.kids[i].kind, .int .i64 t.kids[i].num, .str t.kids[i].name, .slice .imm (if (t.kids[i].kids.map dN).isEmpty = true then 0 else 4) (t.kids[i].kids.map dN)]]), nx + 1, nx :: lv⟩ ∧ m = 2 - j ∧ j ≤ 2 ∧ Hid (al1 t.kids[i] NM = al1 t.kids[i] (NM.drop j))) ?_ (2) _ ?_
      rotate_left
      ·exact ⟨0, by rw [hNM]; rfl, rfl, Nat.zero_le _, Lib.hid rfl⟩
      rintro m σ ⟨j, hσ, rfl, hj, hg⟩
      generalize slotOf σ = x at hσ
      subst hσ
      refine X_seq ?_
      refine X_rg fun R hR => ?_
      simp only [aops, astep, awant, aeff, aop, abin, aint, ev, St.put, zg1, zg0, zgd, zmo, if_true, zs1, zs0]
      with_reducible refine hR _ ?_
      clear hR R
      show X _ _ _ _
      refine X_seq ?_
      refine X_ite (by simp only [ev, zg1, zg0, zgd]; exact rfl) ?_ ?_
      ·intro b15
       have c15 := b15
       try simp only [decide_eq_true_eq] at c15
       refine X_skip ?_
       show X _ _ _ _
       refine X_seq ?_
       refine X_block ?_
       refine X_seq ?_
       have hlj : j < 2 := by first | assumption | omega
       have hjN : j < NM.length := by omega
       have e2 : (NM.map dS)[j]? = some (.str NM[j]) := by simp [hjN, dS]
       have hl2 : ((j : Int) < 2) = True := eq_true (by omega)
       refine X_rg fun R hR => ?_
       simp only [EVP, nat_lt, nat_0, nat_to, aops, astep, awant, aeff, aop, ev, St.put, ia_str, cl_str, zg1, zg0, zgd, zmo, if_true, zs1, zs0, zlm, zlc, zln, Nat.zero_add, and_self, decide_true, zis, ty_string, und_string, siz_string, inf_string_eq, hjN, e2, hl2]
       with_reducible refine hR _ ?_
       clear hR R
       show X _ _ _ _
       refine X_seq ?_
       have hx := lidx_fn NM[j] t.kids[i] (hkc _ (List.getElem_mem hlt)).1 (hkc _ (List.getElem_mem hlt)).2
       refine X_rg fun R hR => ?_
       simp only [EVP, app_get0, aops, astep, awant, aeff, aop, mkD, ev, St.put, pcall, zmc, zmn, zg1, zg0, zgd, zmo, if_true, zs1, zs0, zlc, zln, zd0, zt1, zt0, zca, zna, Nat.reduceAdd, Nat.reduceLeDiff, Nat.zero_add, ty_api_Node, any65, dN_agg, hx]
       with_reducible refine hR _ ?_
       clear hR R
       show X _ _ _ _
       refine X_ite (by simp only [ev, zg1, zg0, zgd]; exact rfl) ?_ ?_
       ·intro b16
        have c16 := b16
        try simp only [znt, znf, decide_eq_true_eq, decide_eq_false_iff_not, beq_iff_eq, Int.not_lt, Int.not_le, ge_iff_le, gt_iff_lt, bne_iff_ne, ne_eq, bne_eq_false_iff_eq, beq_eq_false_iff_ne, zat, zof] at c16
        refine X_seq ?_
        refine X_rg fun R hR => ?_
        simp only [inr_i64, Int.reduceLE, Int.reduceNeg, aops, astep, awant, aeff, aop, ev, ofValue, St.put, zg1, zg0, zgd, zmo, if_true, zs1, zs0, and_self, b16]
        with_reducible refine hR _ ?_
        clear hR R
        show X _ _ _ _
        refine X_ret ?_
        show resD _ _ _ = some _
        simp only [resD, resAll, resOne, resTup, Try.results41, EVP, zg1, zg0, D.good, if_true, zmo] <;> (first | (simp [rejT, c13]; rfl; done) | (simp [rejT, c13]; done) | (simp [rejT, c2, c12, c13, c14, c15, c16, hn27, al2_one hlen, al1, nmE, hnm.1, hnm.2]; done) | (simp [rejT, c2, c12, c13, c14, c15, c16, hn27, al2_one hlen, al1, nmE, hnm.1, hnm.2]; rfl; done) | (simp [rejT, c13, hf.out, al2_y hlt (hg.out.trans (al1_y hjN (by assumption))), nmE, ← hNM]; done) | (simp [rejT, c2, c12, c13, c14, c15, c16, hn27, hf.out, al2_e (c := t.kids) (i := i) (by omega), nmE, ← hNM]; rfl; done) | (unfold rejT; rw [if_neg (by omega), if_pos (by omega)]; simp [c2, c12, c13, c14, c15, c16, hn27]; done) | (unfold rejT; rw [if_neg (by omega), if_pos (by omega)]; simp [c2, c12, c13, c14, c15, c16, hn27]; rfl; done) | (unfold rejT; rw [if_neg (by omega), if_neg (by omega), if_neg (by omega), if_neg (by omega), if_neg (by omega), if_pos (by omega), hf.out, dup_y hlt (any_true_at (p := fun m : Tr => m.name.toList == t.kids[i].name.toList) (l := t.kids.take i) (i := j) (by simp; omega) (by simp only [List.getElem_take]; rw [eqc]; assumption))]; rfl; done) | (unfold rejT; rw [if_neg (by omega), if_neg (by omega), if_neg (by omega), if_neg (by omega), if_neg (by omega), if_pos (by omega), hf.out, show t.kids.length - i = 0 from by omega]; rfl; done) | (rw [rejT_no (by omega)]; rfl; done) | (exfalso; simp_all; done))
       ·intro b17
        have c17 := b17
        try simp only [znt, znf, decide_eq_true_eq, decide_eq_false_iff_not, beq_iff_eq, Int.not_lt, Int.not_le, ge_iff_le, gt_iff_lt, bne_iff_ne, ne_eq, bne_eq_false_iff_eq, beq_eq_false_iff_ne, zat, zof] at c17
        refine X_skip ?_
        show X _ _ _ _
        have hbj : j < 9223372036854775807 := by omega
        refine X_rg fun R hR => ?_
        simp only [inr_i64, Int.reduceLE, Int.reduceNeg, aops, astep, awant, aeff, aop, abin, aint, ev, ofValue, St.put, zg1, zg0, zgd, zmo, if_true, zs1, zs0, and_self, b17, nat_succ hbj]
        with_reducible refine hR _ ?_
        clear hR R
        show ∃ m, m < _ ∧ _
        exact ⟨2 - (j + 1), by omega, j + 1, rfl, rfl, by omega, Lib.hid (hg.out.trans (al1_n hjN (by first | assumption | simp_all)))⟩
      ·intro b18
       have c18 := b18
       try simp only [decide_eq_false_iff_not, Int.not_lt] at c18
       refine X_exit ?_
       show X _ _ _ _
       have hbig : i < 9223372036854775807 := by omega
       refine X_rg fun R hR => ?_
       simp only [inr_i64, Int.reduceLE, Int.reduceNeg, aops, astep, awant, aeff, aop, abin, aint, ev, ofValue, St.put, zg1, zg0, zgd, zmo, if_true, zs1, zs0, and_self, b18, nat_succ hbig]
       with_reducible refine hR _ ?_
       clear hR R
       show ∃ m, m < _ ∧ _
       exact ⟨t.kids.length - (i + 1), by omega, i + 1, _, _, _, rfl, rfl, by omega, Lib.hid (hf.out.trans (al2_n hlt (by rw [hg.out]; exact al1_e (by omega))))⟩
     ·intro b19
      have c19 := b19
      try simp only [decide_eq_false_iff_not] at c19
      refine X_exit ?_
      show X _ _ _ _
      refine X_seq ?_
      refine X_rg fun R hR => ?_
      simp only [inr_i64, Int.reduceLE, Int.reduceNeg, aops, astep, awant, aeff, aop, ev, ofValue, St.put, zgd, zmo, if_true, zs1, zs0, and_self, emp_ok, b19]
      with_reducible refine hR _ ?_
      clear hR R
      show X _ _ _ _
      refine X_ret ?_
      show resD _ _ _ = some _
      simp only [resD, resAll, resOne, resTup, Try.results41, EVP, zg1, zg0, D.good, if_true, zmo] <;> (first | (simp [rejT, c13]; rfl; done) | (simp [rejT, c13]; done) | (simp [rejT, c2, c12, c13, c19, hn27, al2_one hlen, al1, nmE, hnm.1, hnm.2]; done) | (simp [rejT, c2, c12, c13, c19, hn27, al2_one hlen, al1, nmE, hnm.1, hnm.2]; rfl; done) | (simp [rejT, c2, c12, c13, c19, hn27, hf.out, al2_y hlt (hg.out.trans (al1_y hjN (by assumption))), nmE, ← hNM]; done) | (simp [rejT, c13, hf.out, al2_e (c := t.kids) (i := i) (by omega), nmE, ← hNM]; rfl; done) | (unfold rejT; rw [if_neg (by omega), if_pos (by omega)]; simp [c2, c12, c13, c19, hn27]; done) | (unfold rejT; rw [if_neg (by omega), if_pos (by omega)]; simp [c2, c12, c13, c19, hn27]; rfl; done) | (unfold rejT; rw [if_neg (by omega), if_neg (by omega), if_neg (by omega), if_neg (by omega), if_neg (by omega), if_pos (by omega), hf.out, dup_y hlt (any_true_at (p := fun m : Tr => m.name.toList == t.kids[i].name.toList) (l := t.kids.take i) (i := j) (by simp; omega) (by simp only [List.getElem_take]; rw [eqc]; assumption))]; rfl; done) | (unfold rejT; rw [if_neg (by omega), if_neg (by omega), if_neg (by omega), if_neg (by omega), if_neg (by omega), if_pos (by omega), hf.out, show t.kids.length - i = 0 from by omega]; rfl; done) | (rw [rejT_no (by omega)]; rfl; done) | (exfalso; simp_all; done))
    ·intro b20
     have c20 := b20
     try simp only [ne_eq, beq_eq_false_iff_ne] at c20
     refine X_seqJ (fun σ => ∃ (g82 : Bool), σ = ⟨[slotOf σ 0, .ptr 0 0, slotOf σ 2, slotOf σ 3, slotOf σ 4, slotOf σ 5, slotOf σ 6, slotOf σ 7, slotOf σ 8, slotOf σ 9, slotOf σ 10, slotOf σ 11, slotOf σ 12, slotOf σ 13, slotOf σ 14, slotOf σ 15, slotOf σ 16, slotOf σ 17, slotOf σ 18, .int .u8 t.kind, slotOf σ 20, slotOf σ 21, slotOf σ 22, slotOf σ 23, slotOf σ 24, slotOf σ 25, slotOf σ 26, slotOf σ 27, slotOf σ 28, slotOf σ 29, slotOf σ 30, slotOf σ 31, slotOf σ 32, slotOf σ 33, slotOf σ 34, slotOf σ 35, slotOf σ 36, slotOf σ 37, slotOf σ 38, slotOf σ 39, slotOf σ 40, slotOf σ 41, slotOf σ 42, slotOf σ 43, slotOf σ 44, slotOf σ 45, slotOf σ 46, slotOf σ 47, slotOf σ 48, slotOf σ 49, slotOf σ 50, slotOf σ 51, slotOf σ 52, slotOf σ 53, slotOf σ 54, slotOf σ 55, slotOf σ 56, slotOf σ 57, slotOf σ 58, slotOf σ 59, slotOf σ 60, slotOf σ 61, slotOf σ 62, slotOf σ 63, slotOf σ 64, slotOf σ 65, slotOf σ 66, slotOf σ 67, slotOf σ 68, slotOf σ 69, slotOf σ 70, slotOf σ 71, slotOf σ 72, slotOf σ 73, slotOf σ 74, slotOf σ 75, slotOf σ 76, slotOf σ 77, slotOf σ 78, slotOf σ 79, slotOf σ 80, slotOf σ 81, .bool g82, slotOf σ 83, slotOf σ 84, slotOf σ 85, slotOf σ 86, slotOf σ 87, slotOf σ 88, slotOf σ 89, slotOf σ 90, slotOf σ 91, slotOf σ 92, slotOf σ 93, slotOf σ 94, slotOf σ 95, slotOf σ 96, slotOf σ 97, slotOf σ 98, slotOf σ 99, slotOf σ 100, slotOf σ 101, slotOf σ 102, slotOf σ 103, slotOf σ 104, slotOf σ 105, slotOf σ 106, slotOf σ 107, slotOf σ 108, slotOf σ 109, slotOf σ 110, slotOf σ 111, slotOf σ 112, slotOf σ 113, slotOf σ 114, slotOf σ 115, slotOf σ 116, slotOf σ 117, slotOf σ 118, slotOf σ 119, slotOf σ 120, slotOf σ 121, slotOf σ 122, slotOf σ 123, slotOf σ 124, slotOf σ 125, slotOf σ 126, slotOf σ 127, slotOf σ 128, slotOf σ 129, slotOf σ 130, slotOf σ 131, slotOf σ 132, slotOf σ 133, slotOf σ 134, slotOf σ 135, slotOf σ 136, slotOf σ 137, slotOf σ 138, slotOf σ 139, slotOf σ 140, slotOf σ 141, slotOf σ 142, slotOf σ 143, slotOf σ 144, slotOf σ 145, slotOf σ 146, slotOf σ 147, slotOf σ 148, slotOf σ 149, slotOf σ 150, slotOf σ 151, slotOf σ 152, slotOf σ 153, slotOf σ 154, slotOf σ 155, slotOf σ 156, slotOf σ 157, slotOf σ 158, slotOf σ 159, slotOf σ 160, slotOf σ 161, slotOf σ 162, slotOf σ 163, slotOf σ 164, slotOf σ 165, slotOf σ 166, slotOf σ 167, slotOf σ 168, slotOf σ 169, slotOf σ 170, slotOf σ 171, slotOf σ 172, slotOf σ 173, slotOf σ 174, slotOf σ 175, slotOf σ 176, slotOf σ 177, slotOf σ 178, slotOf σ 179, slotOf σ 180, slotOf σ 181, slotOf σ 182], [[.int .u8 t.kind, .int .i64 t.num, .str t.name, .slice .imm (if (t.kids.map dN).isEmpty = true then 0 else 4) (t.kids.map dN)]], 0, []⟩ ∧ g82 = decide (t.kind = 44 ∨ t.kind = 45 ∨ t.kind = 46 ∨ t.kind = 47 ∨ t.kind = 48 ∨ t.kind = 49)) ?_ ?_
     ·skip
      refine X_seq ?_
      refine X_rg fun R hR => ?_
      simp only [inr_u8, Int.reduceLE, aops, astep, awant, aeff, aop, abin, aint, ev, ofValue, St.put, zg1, zg0, zgd, zmo, if_true, zs1, zs0, and_self, b20]
      with_reducible refine hR _ ?_
      clear hR R
      show X _ _ _ _
      refine X_ite (by simp only [ev, zg1, zg0, zgd]; exact rfl) ?_ ?_
      ·intro b21
       have c21 := b21
       try simp only [beq_iff_eq] at c21
       refine X_skip ?_
       exact ⟨_, rfl, by first | (simp [c21]; done) | (simp [c2, c12, c20, c21]; rfl)⟩
      ·intro b22
       have c22 := b22
       try simp only [ne_eq, beq_eq_false_iff_ne] at c22
       refine X_seq ?_
       refine X_rg fun R hR => ?_
       simp only [inr_u8, Int.reduceLE, aops, astep, awant, aeff, aop, abin, aint, ev, ofValue, St.put, zg1, zg0, zgd, zmo, if_true, zs1, zs0, and_self, b22]
       with_reducible refine hR _ ?_
       clear hR R
       show X _ _ _ _
       refine X_ite (by simp only [ev, zg1, zg0, zgd]; exact rfl) ?_ ?_
       ·intro b23
        have c23 := b23
        try simp only [beq_iff_eq] at c23
        refine X_skip ?_
        exact ⟨_, rfl, by first | (simp [c23]; done) | (simp [c2, c12, c20, c22, c23]; rfl)⟩
       ·intro b24
        have c24 := b24
        try simp only [ne_eq, beq_eq_false_iff_ne] at c24
        refine X_seq ?_
        refine X_rg fun R hR => ?_
        simp only [inr_u8, Int.reduceLE, aops, astep, awant, aeff, aop, abin, aint, ev, ofValue, St.put, zg1, zg0, zgd, zmo, if_true, zs1, zs0, and_self, b24]
        with_reducible refine hR _ ?_
        clear hR R
        show X _ _ _ _
        refine X_ite (by simp only [ev, zg1, zg0, zgd]; exact rfl) ?_ ?_
        ·intro b25
         have c25 := b25
         try simp only [beq_iff_eq] at c25
         refine X_skip ?_
         exact ⟨_, rfl, by first | (simp [c25]; done) | (simp [c2, c12, c20, c22, c24, c25]; rfl)⟩
        ·intro b26
         have c26 := b26
         try simp only [ne_eq, beq_eq_false_iff_ne] at c26
         refine X_seq ?_
         refine X_rg fun R hR => ?_
         simp only [inr_u8, Int.reduceLE, aops, astep, awant, aeff, aop, abin, aint, ev, ofValue, St.put, zg1, zg0, zgd, zmo, if_true, zs1, zs0, and_self, b26]
         with_reducible refine hR _ ?_
         clear hR R
         show X _ _ _ _
         refine X_ite (by simp only [ev, zg1, zg0, zgd]; exact rfl) ?_ ?_
         ·intro b27
          have c27 := b27
          try simp only [beq_iff_eq] at c27
          refine X_skip ?_
          exact ⟨_, rfl, by first | (simp [c27]; done) | (simp [c2, c12, c20, c22, c24, c26, c27]; rfl)⟩
         ·intro b28
          have c28 := b28
          try simp only [ne_eq, beq_eq_false_iff_ne] at c28
          refine X_seq ?_
          refine X_rg fun R hR => ?_
          simp only [inr_u8, Int.reduceLE, aops, astep, awant, aeff, aop, abin, aint, ev, ofValue, St.put, zg1, zg0, zgd, zmo, if_true, zs1, zs0, and_self, b28]
          with_reducible refine hR _ ?_
          clear hR R
          show X _ _ _ _
          refine X_ite (by simp only [ev, zg1, zg0, zgd]; exact rfl) ?_ ?_
          ·intro b29
           have c29 := b29
           try simp only [beq_iff_eq] at c29
           refine X_skip ?_
           exact ⟨_, rfl, by first | (simp [c29]; done) | (simp [c2, c12, c20, c22, c24, c26, c28, c29]; rfl)⟩
          ·intro b30
           have c30 := b30
           try simp only [ne_eq, beq_eq_false_iff_ne] at c30
           refine X_rg fun R hR => ?_
           simp only [inr_u8, Int.reduceLE, aops, astep, awant, aeff, aop, abin, aint, ev, ofValue, St.put, zg1, zg0, zgd, zmo, if_true, zs1, zs0, and_self, b30]
           with_reducible refine hR _ ?_
           clear hR R
           exact ⟨_, rfl, by first | (simp [c22, c24, c26, c28, c30]; done) | (simp [c22, c24, c26, c28, c30]; rfl)⟩
     ·skip
      rintro σ ⟨g82, hσ, hg82⟩
      generalize slotOf σ = x at hσ
      subst hσ
      refine X_ite (by simp only [ev, zg1, zg0, zgd]; exact rfl) ?_ ?_
      ·intro b31
       have c31 := b31
       try simp only [znt, znf, decide_eq_true_eq, decide_eq_false_iff_not, beq_iff_eq, Int.not_lt, Int.not_le, ge_iff_le, gt_iff_lt, bne_iff_ne, ne_eq, bne_eq_false_iff_eq, beq_eq_false_iff_ne, zat, zof] at c31
       have hk82 := of_decide_eq_true (hg82.symm.trans b31)
       refine X_seq ?_
       refine X_seq ?_
       have hlen := (okN_len hok).2.1 (by first | (simp [*]; done) | omega)
       have hlt0 : 0 < t.kids.length := by omega
       have hn0 := kid_n hlt0
       have he0 := kid_e hlt0
       have hl0 : ((0 : Int) < (t.kids.length : Int)) = True := eq_true (by omega)
       refine X_rg fun R hR => ?_
       simp only [EVP, inr_i64, Int.reduceLE, Int.reduceNeg, aops, astep, awant, aeff, aop, mkD, ev, ofValue, St.put, ia_str, cl_str, ia_slice, zg1, zg0, zgd, zmo, if_true, zs1, zs0, zlm, zlc, zln, zd1, zd0, zt1, zt0, Nat.reduceAdd, Nat.reduceLeDiff, Nat.zero_add, zft, if_false, and_self, reduceCtorEq, zis, ty_string, ty_s_api_Node, ty_api_Node, und_api_Node, siz_api_Node, inf_api_Node_eq, sl, b31, hn0, he0, hl0, Int.toNat_zero, dN_eq (kidN t 0)]
       with_reducible refine hR _ ?_
       clear hR R
       show X _ _ _ _
       refine X_seq ?_
       have hlen := (okN_len hok).2.1 (by first | (simp [*]; done) | omega)
       have hlt0 : 0 < t.kids.length := by omega
       have hn0 := kid_n hlt0
       have he0 := kid_e hlt0
       have hl0 : ((0 : Int) < (t.kids.length : Int)) = True := eq_true (by omega)
       have hz0 := kidN_size (i := 0) hs
       have hi0 := okN_item (okN_kid hok hlt0)
       have hI := lidx_fn (kidN t 0).name (kidN t 0) hz0 hi0
       refine X_rg fun R hR => ?_
       simp only [EVP, inr_i64, Int.reduceLE, Int.reduceNeg, aops, astep, awant, aeff, aop, mkD, ev, ofValue, St.put, pcall, ia_slice, zmc, zmn, zg1, zg0, zgd, zmo, if_true, zs1, zs0, zlm, zlc, zln, zd1, zd0, zt1, zt0, zca, zna, Nat.reduceAdd, Nat.reduceLeDiff, Nat.zero_add, zft, if_false, and_self, reduceCtorEq, zis, ty_s_api_Node, ty_api_Node, und_api_Node, siz_api_Node, inf_api_Node_eq, any65, dN_agg, dN_cells, dN_isAgg, sl, hn0, he0, hl0, Int.toNat_zero, hI]
       with_reducible refine hR _ ?_
       clear hR R
       show X _ _ _ _
       refine X_ite (by simp only [ev, zg1, zg0, zgd]; exact rfl) ?_ ?_
       ·intro b32
        have c32 := b32
        try simp only [znt, znf, decide_eq_true_eq, decide_eq_false_iff_not, beq_iff_eq, Int.not_lt, Int.not_le, ge_iff_le, gt_iff_lt, bne_iff_ne, ne_eq, bne_eq_false_iff_eq, beq_eq_false_iff_ne, zat, zof] at c32
        refine X_seq ?_
        refine X_rg fun R hR => ?_
        simp only [inr_i64, Int.reduceLE, Int.reduceNeg, aops, astep, awant, aeff, aop, ev, ofValue, St.put, zg1, zg0, zgd, zmo, if_true, zs1, zs0, and_self, b32]
        with_reducible refine hR _ ?_
        clear hR R
        show X _ _ _ _
        refine X_ret ?_
        show resD _ _ _ = some _
        simp only [resD, resAll, resOne, resTup, Try.results41, EVP, zg1, zg0, D.good, if_true, zmo] <;> (first | (rcases hk82 with h | h | h | h | h | h <;> (first | (simp [rejT, c32, h, al2_one hlen, al1, nmE]; done) | (simp [rejT, c2, c12, c20, c31, c32, h, al2_one hlen, al1, nmE, hnm.1, hnm.2]; rfl) | (simp_all; done)); done) | (exfalso; simp_all; done))
       ·intro b33
        have c33 := b33
        try simp only [znt, znf, decide_eq_true_eq, decide_eq_false_iff_not, beq_iff_eq, Int.not_lt, Int.not_le, ge_iff_le, gt_iff_lt, bne_iff_ne, ne_eq, bne_eq_false_iff_eq, beq_eq_false_iff_ne, zat, zof] at c33
        refine X_skip ?_
        show X _ _ _ _
        refine X_seq ?_
        have hI2 := lidx_fn t.name (kidN t 0) hz0 hi0
        refine X_y ?_
        refine Y_k 4 fun R hR => ?_
        simp only [EVP, aops, astep, awant, aeff, aop, abin, astr, mkD, ev, ofValue, St.put, ia_str, zg1, zg0, zgd, zmo, if_true, zs1, zs0, zlc, zln, zd1, zd0, zt1, zt0, Nat.reduceAdd, Nat.reduceLeDiff, Nat.zero_add, zft, if_false, reduceCtorEq, ty_string, ty_api_Node, emp_ok, b33, ne_emp]
        with_reducible refine hR _ ?_
        clear hR R
        simp only [zd1, zd0]
        refine Y_if 104 (by simp only [ev, zg1, zg0, zgd]; exact rfl) ?_ ?_
        ·intro b34
         have c34 := b34
         try simp only [znt] at c34
         refine Y_end fun R hR => ?_
         simp only [EVP, inr_i64, Int.reduceLE, Int.reduceNeg, aops, astep, awant, aeff, aop, mkD, ev, ofValue, St.put, pcall, ia_str, ia_slice, zmc, zmn, zg1, zg0, zgd, zmo, zbs, if_true, zs1, zs0, zlm, zlc, zln, zd1, zd0, zt1, zt0, zca, zna, Nat.reduceAdd, Nat.reduceLeDiff, Nat.zero_add, zft, if_false, and_self, reduceCtorEq, beq_self_eq_true, zis, ty_string, ty_s_api_Node, ty_api_Node, und_api_Node, siz_api_Node, inf_api_Node_eq, any65, dN_cells, dN_isAgg, sl, b34, hn0, he0, hl0, Int.toNat_zero, hI2]
         with_reducible refine hR _ ?_
         clear hR R
         show X _ _ _ _
         refine X_ite (by simp only [ev, zg1, zg0, zgd]; exact rfl) ?_ ?_
         ·intro b35
          have c35 := b35
          try simp only [znt, znf, decide_eq_true_eq, decide_eq_false_iff_not, beq_iff_eq, Int.not_lt, Int.not_le, ge_iff_le, gt_iff_lt, bne_iff_ne, ne_eq, bne_eq_false_iff_eq, beq_eq_false_iff_ne, zat, zof] at c35
          refine X_seq ?_
          refine X_rg fun R hR => ?_
          simp only [EVP, inr_i64, Int.reduceLE, Int.reduceNeg, aops, astep, awant, aeff, aop, mkD, ev, ofValue, St.put, ia_str, zg1, zg0, zgd, zmo, if_true, zs1, zs0, zlc, zln, zd1, zd0, zt1, zt0, Nat.reduceAdd, Nat.reduceLeDiff, Nat.zero_add, zft, if_false, and_self, reduceCtorEq, ty_string, ty_api_Node, b35]
          with_reducible refine hR _ ?_
          clear hR R
          show X _ _ _ _
          refine X_ret ?_
          show resD _ _ _ = some _
          simp only [resD, resAll, resOne, resTup, Try.results41, EVP, zg1, zg0, D.good, if_true, zmo] <;> (first | (rcases hk82 with h | h | h | h | h | h <;> (first | (simp [rejT, c33, c35, h, al2_one hlen, al1, nmE]; done) | (simp [rejT, c33, h, al2_one hlen, al1, nmE]; rfl) | (simp_all; done)); done) | (exfalso; simp_all; done))
         ·intro b36
          have c36 := b36
          try simp only [znt, znf, decide_eq_true_eq, decide_eq_false_iff_not, beq_iff_eq, Int.not_lt, Int.not_le, ge_iff_le, gt_iff_lt, bne_iff_ne, ne_eq, bne_eq_false_iff_eq, beq_eq_false_iff_ne, zat, zof] at c36
          refine X_skip ?_
          show X _ _ _ _
          refine X_seq ?_
          refine X_rg fun R hR => ?_
          simp only [inr_i64, Int.reduceLE, Int.reduceNeg, aops, astep, awant, aeff, aop, ev, ofValue, St.put, zgd, zmo, if_true, zs1, zs0, and_self, emp_ok, b36]
          with_reducible refine hR _ ?_
          clear hR R
          show X _ _ _ _
          refine X_ret ?_
          show resD _ _ _ = some _
          simp only [resD, resAll, resOne, resTup, Try.results41, EVP, zg1, zg0, D.good, if_true, zmo] <;> (first | (rcases hk82 with h | h | h | h | h | h <;> (first | (simp [rejT, c33, c36, h, al2_one hlen, al1, nmE]; done) | (simp [rejT, c33, c36, h, al2_one hlen, al1, nmE]; rfl) | (simp_all; done)); done) | (exfalso; simp_all; done))
        ·intro b37
         have c37 := b37
         try simp only [znf] at c37
         refine Y_end fun R hR => ?_
         simp only [EVP, aops, astep, awant, aeff, aop, ev, ofValue, St.put, pcall, zmc, zmn, zg1, zg0, zgd, zmo, Option.map_none, zbs, if_true, zs1, zs0, zca, zna, Nat.zero_add, zft, if_false, reduceCtorEq, bq_ft, ty_string, ty_s_api_Node, ty_api_Node, und_api_Node, any65, b37]
         with_reducible refine hR _ ?_
         clear hR R
         show X _ _ _ _
         refine X_false (by simp only [ev, zg1, zg0, zgd]) ?_
         refine X_skip ?_
         show X _ _ _ _
         refine X_seq ?_
         refine X_rg fun R hR => ?_
         simp only [inr_i64, Int.reduceLE, Int.reduceNeg, aops, astep, awant, aeff, aop, ev, ofValue, St.put, zgd, zmo, if_true, zs1, zs0, and_self, emp_ok]
         with_reducible refine hR _ ?_
         clear hR R
         show X _ _ _ _
         refine X_ret ?_
         show resD _ _ _ = some _
         simp only [resD, resAll, resOne, resTup, Try.results41, EVP, zg1, zg0, D.good, if_true, zmo] <;> (first | (rcases hk82 with h | h | h | h | h | h <;> (first | (simp [rejT, c33, h, al2_one hlen, al1, nmE]; done) | (simp [rejT, c33, h, al2_one hlen, al1, nmE]; rfl) | (simp_all; done)); done) | (exfalso; simp_all; done))
      ·intro b38
       have c38 := b38
       try simp only [znt, znf, decide_eq_true_eq, decide_eq_false_iff_not, beq_iff_eq, Int.not_lt, Int.not_le, ge_iff_le, gt_iff_lt, bne_iff_ne, ne_eq, bne_eq_false_iff_eq, beq_eq_false_iff_ne, zat, zof] at c38
       have hn82 := of_decide_eq_false (hg82.symm.trans b38)
       refine X_seqJ (fun σ => ∃ (g115 : Bool), σ = ⟨[slotOf σ 0, .ptr 0 0, slotOf σ 2, slotOf σ 3, slotOf σ 4, slotOf σ 5, slotOf σ 6, slotOf σ 7, slotOf σ 8, slotOf σ 9, slotOf σ 10, slotOf σ 11, slotOf σ 12, slotOf σ 13, slotOf σ 14, slotOf σ 15, slotOf σ 16, slotOf σ 17, slotOf σ 18, .int .u8 t.kind, slotOf σ 20, slotOf σ 21, slotOf σ 22, slotOf σ 23, slotOf σ 24, slotOf σ 25, slotOf σ 26, slotOf σ 27, slotOf σ 28, slotOf σ 29, slotOf σ 30, slotOf σ 31, slotOf σ 32, slotOf σ 33, slotOf σ 34, slotOf σ 35, slotOf σ 36, slotOf σ 37, slotOf σ 38, slotOf σ 39, slotOf σ 40, slotOf σ 41, slotOf σ 42, slotOf σ 43, slotOf σ 44, slotOf σ 45, slotOf σ 46, slotOf σ 47, slotOf σ 48, slotOf σ 49, slotOf σ 50, slotOf σ 51, slotOf σ 52, slotOf σ 53, slotOf σ 54, slotOf σ 55, slotOf σ 56, slotOf σ 57, slotOf σ 58, slotOf σ 59, slotOf σ 60, slotOf σ 61, slotOf σ 62, slotOf σ 63, slotOf σ 64, slotOf σ 65, slotOf σ 66, slotOf σ 67, slotOf σ 68, slotOf σ 69, slotOf σ 70, slotOf σ 71, slotOf σ 72, slotOf σ 73, slotOf σ 74, slotOf σ 75, slotOf σ 76, slotOf σ 77, slotOf σ 78, slotOf σ 79, slotOf σ 80, slotOf σ 81, slotOf σ 82, slotOf σ 83, slotOf σ 84, slotOf σ 85, slotOf σ 86, slotOf σ 87, slotOf σ 88, slotOf σ 89, slotOf σ 90, slotOf σ 91, slotOf σ 92, slotOf σ 93, slotOf σ 94, slotOf σ 95, slotOf σ 96, slotOf σ 97, slotOf σ 98, slotOf σ 99, slotOf σ 100, slotOf σ 101, slotOf σ 102, slotOf σ 103, slotOf σ 104, slotOf σ 105, slotOf σ 106, slotOf σ 107, slotOf σ 108, slotOf σ 109, slotOf σ 110, slotOf σ 111, slotOf σ 112, slotOf σ 113, slotOf σ 114, .bool g115, slotOf σ 116, slotOf σ 117, slotOf σ 118, slotOf σ 119, slotOf σ 120, slotOf σ 121, slotOf σ 122, slotOf σ 123, slotOf σ 124, slotOf σ 125, slotOf σ 126, slotOf σ 127, slotOf σ 128, slotOf σ 129, slotOf σ 130, slotOf σ 131, slotOf σ 132, slotOf σ 133, slotOf σ 134, slotOf σ 135, slotOf σ 136, slotOf σ 137, slotOf σ 138, slotOf σ 139, slotOf σ 140, slotOf σ 141, slotOf σ 142, slotOf σ 143, slotOf σ 144, slotOf σ 145, slotOf σ 146, slotOf σ 147, slotOf σ 148, slotOf σ 149, slotOf σ 150, slotOf σ 151, slotOf σ 152, slotOf σ 153, slotOf σ 154, slotOf σ 155, slotOf σ 156, slotOf σ 157, slotOf σ 158, slotOf σ 159, slotOf σ 160, slotOf σ 161, slotOf σ 162, slotOf σ 163, slotOf σ 164, slotOf σ 165, slotOf σ 166, slotOf σ 167, slotOf σ 168, slotOf σ 169, slotOf σ 170, slotOf σ 171, slotOf σ 172, slotOf σ 173, slotOf σ 174, slotOf σ 175, slotOf σ 176, slotOf σ 177, slotOf σ 178, slotOf σ 179, slotOf σ 180, slotOf σ 181, slotOf σ 182], [[.int .u8 t.kind, .int .i64 t.num, .str t.name, .slice .imm (if (t.kids.map dN).isEmpty = true then 0 else 4) (t.kids.map dN)]], 0, []⟩ ∧ g115 = decide (t.kind = 50 ∨ t.kind = 51)) ?_ ?_
       ·skip
        refine X_seq ?_
        refine X_rg fun R hR => ?_
        simp only [inr_u8, Int.reduceLE, aops, astep, awant, aeff, aop, abin, aint, ev, ofValue, St.put, zg1, zg0, zgd, zmo, if_true, zs1, zs0, and_self, b38]
        with_reducible refine hR _ ?_
        clear hR R
        show X _ _ _ _
        refine X_ite (by simp only [ev, zg1, zg0, zgd]; exact rfl) ?_ ?_
        ·intro b39
         have c39 := b39
         try simp only [beq_iff_eq] at c39
         refine X_skip ?_
         exact ⟨_, rfl, by first | (simp [c39]; done) | (simp [c2, c12, c20, c38, c39]; rfl)⟩
        ·intro b40
         have c40 := b40
         try simp only [ne_eq, beq_eq_false_iff_ne] at c40
         refine X_rg fun R hR => ?_
         simp only [inr_u8, Int.reduceLE, aops, astep, awant, aeff, aop, abin, aint, ev, ofValue, St.put, zg1, zg0, zgd, zmo, if_true, zs1, zs0, and_self, b40]
         with_reducible refine hR _ ?_
         clear hR R
         exact ⟨_, rfl, by first | (simp [c40]; done) | (simp [c40]; rfl)⟩
       ·skip
        rintro σ ⟨g115, hσ, hg115⟩
        generalize slotOf σ = x at hσ
        subst hσ
        refine X_ite (by simp only [ev, zg1, zg0, zgd]; exact rfl) ?_ ?_
        ·intro b41
         have c41 := b41
         try simp only [znt, znf, decide_eq_true_eq, decide_eq_false_iff_not, beq_iff_eq, Int.not_lt, Int.not_le, ge_iff_le, gt_iff_lt, bne_iff_ne, ne_eq, bne_eq_false_iff_eq, beq_eq_false_iff_ne, zat, zof] at c41
         have hk115 := of_decide_eq_true (hg115.symm.trans b41)
         refine X_seq ?_
         refine X_rg fun R hR => ?_
         simp only [EVP, inr_i64, Int.reduceLE, Int.reduceNeg, aops, astep, awant, aeff, aop, mkD, ev, ofValue, St.put, ia_slice, zg1, zg0, zgd, zmo, if_true, zs1, zs0, zlm, zlc, zln, zd1, zd0, zt1, zt0, Nat.reduceAdd, Nat.reduceLeDiff, Nat.zero_add, zft, if_false, and_self, reduceCtorEq, ty_s_api_Node, ty_api_Node, und_api_Node, b41]
         with_reducible refine hR _ ?_
         clear hR R
         show X _ _ _ _
         refine X_block ?_
         refine X_loop (fun m σ => ∃ (i : Nat), σ = ⟨[slotOf σ 0, .ptr 0 0, slotOf σ 2, slotOf σ 3, slotOf σ 4, slotOf σ 5, slotOf σ 6, slotOf σ 7, slotOf σ 8, slotOf σ 9, slotOf σ 10, slotOf σ 11, slotOf σ 12, slotOf σ 13, slotOf σ 14, slotOf σ 15, slotOf σ 16, slotOf σ 17, slotOf σ 18, slotOf σ 19, slotOf σ 20, slotOf σ 21, slotOf σ 22, slotOf σ 23, slotOf σ 24, slotOf σ 25, slotOf σ 26, slotOf σ 27, slotOf σ 28, slotOf σ 29, slotOf σ 30, slotOf σ 31, slotOf σ 32, slotOf σ 33, slotOf σ 34, slotOf σ 35, slotOf σ 36, slotOf σ 37, slotOf σ 38, slotOf σ 39, slotOf σ 40, slotOf σ 41, slotOf σ 42, slotOf σ 43, slotOf σ 44, slotOf σ 45, slotOf σ 46, slotOf σ 47, slotOf σ 48, slotOf σ 49, slotOf σ 50, slotOf σ 51, slotOf σ 52, slotOf σ 53, slotOf σ 54, slotOf σ 55, slotOf σ 56, slotOf σ 57, slotOf σ 58, slotOf σ 59, slotOf σ 60, slotOf σ 61, slotOf σ 62, slotOf σ 63, slotOf σ 64, slotOf σ 65, slotOf σ 66, slotOf σ 67, slotOf σ 68, slotOf σ 69, slotOf σ 70, slotOf σ 71, slotOf σ 72, slotOf σ 73, slotOf σ 74, slotOf σ 75, slotOf σ 76, slotOf σ 77, slotOf σ 78, slotOf σ 79, slotOf σ 80, slotOf σ 81, slotOf σ 82, slotOf σ 83, slotOf σ 84, slotOf σ 85, slotOf σ 86, slotOf σ 87, slotOf σ 88, slotOf σ 89, slotOf σ 90, slotOf σ 91, slotOf σ 92, slotOf σ 93, slotOf σ 94, slotOf σ 95, slotOf σ 96, slotOf σ 97, slotOf σ 98, slotOf σ 99, slotOf σ 100, slotOf σ 101, slotOf σ 102, slotOf σ 103, slotOf σ 104, slotOf σ 105, slotOf σ 106, slotOf σ 107, slotOf σ 108, slotOf σ 109, slotOf σ 110, slotOf σ 111, slotOf σ 112, slotOf σ 113, slotOf σ 114, slotOf σ 115, slotOf σ 116, slotOf σ 117, slotOf σ 118, .slice .imm (if (t.kids.map dN).isEmpty = true then 0 else 4) (t.kids.map dN), .int .i64 t.kids.length, .int .i64 i, slotOf σ 122, slotOf σ 123, slotOf σ 124, slotOf σ 125, slotOf σ 126, slotOf σ 127, slotOf σ 128, slotOf σ 129, slotOf σ 130, slotOf σ 131, slotOf σ 132, slotOf σ 133, slotOf σ 134, slotOf σ 135, slotOf σ 136, slotOf σ 137, slotOf σ 138, slotOf σ 139, slotOf σ 140, slotOf σ 141, slotOf σ 142, slotOf σ 143, slotOf σ 144, slotOf σ 145, slotOf σ 146, slotOf σ 147, slotOf σ 148, slotOf σ 149, slotOf σ 150, slotOf σ 151, slotOf σ 152, slotOf σ 153, slotOf σ 154, slotOf σ 155, slotOf σ 156, slotOf σ 157, slotOf σ 158, slotOf σ 159, slotOf σ 160, slotOf σ 161, slotOf σ 162, slotOf σ 163, slotOf σ 164, slotOf σ 165, slotOf σ 166, slotOf σ 167, slotOf σ 168, slotOf σ 169, slotOf σ 170, slotOf σ 171, slotOf σ 172, slotOf σ 173, slotOf σ 174, slotOf σ 175, slotOf σ 176, slotOf σ 177, slotOf σ 178, slotOf σ 179, slotOf σ 180, slotOf σ 181, slotOf σ 182], [[.int .u8 t.kind, .int .i64 t.num, .str t.name, .slice .imm (if (t.kids.map dN).isEmpty = true then 0 else 4) (t.kids.map dN)]], 0, []⟩ ∧ m = t.kids.length - i ∧ i ≤ t.kids.length ∧ Hid (dupN t.kids 0 t.kids.length = dupN t.kids i (t.kids.length - i))) ?_ (t.kids.length) _ ?_
         rotate_left
         ·exact ⟨0, rfl, rfl, Nat.zero_le _, Lib.hid rfl⟩
         rintro m σ ⟨i, hσ, rfl, hi, hf⟩
         generalize slotOf σ = x at hσ
         subst hσ
         refine X_seq ?_
         refine X_rg fun R hR => ?_
         simp only [nat_lt, aops, astep, awant, aeff, aop, abin, aint, ev, St.put, zg1, zg0, zgd, zmo, if_true, zs1, zs0]
         with_reducible refine hR _ ?_
         clear hR R
         show X _ _ _ _
         refine X_seq ?_
         refine X_ite (by simp only [ev, zg1, zg0, zgd]; exact rfl) ?_ ?_
         ·intro b42
          have c42 := b42
          try simp only [decide_eq_true_eq] at c42
          refine X_skip ?_
          show X _ _ _ _
          refine X_seq ?_
          refine X_block ?_
          refine X_seq ?_
          have hlt : i < t.kids.length := by first | assumption | omega
          refine X_rg fun R hR => ?_
          simp only [aops, astep, awant, aeff, aop, ev, St.put, zg1, zg0, zgd, zmo, if_true, zs1, zs0, b42]
          with_reducible refine hR _ ?_
          clear hR R
          show X _ _ _ _
          refine X_seq ?_
          refine X_rg fun R hR => ?_
          simp only [inr_i64, Int.reduceLE, Int.reduceNeg, aops, astep, awant, aeff, aop, ev, ofValue, St.put, zg1, zg0, zgd, zmo, if_true, zs1, zs0, and_self]
          with_reducible refine hR _ ?_
          clear hR R
          show X _ _ _ _
          refine X_block ?_
          refine X_loop (fun m σ => ∃ (j : Nat), σ = ⟨[slotOf σ 0, .ptr 0 0, slotOf σ 2, slotOf σ 3, slotOf σ 4, slotOf σ 5, slotOf σ 6, slotOf σ 7, slotOf σ 8, slotOf σ 9, .int .i64 i, slotOf σ 11, slotOf σ 12, slotOf σ 13, slotOf σ 14, slotOf σ 15, slotOf σ 16, slotOf σ 17, slotOf σ 18, slotOf σ 19, slotOf σ 20, slotOf σ 21, slotOf σ 22, slotOf σ 23, slotOf σ 24, slotOf σ 25, slotOf σ 26, slotOf σ 27, slotOf σ 28, slotOf σ 29, slotOf σ 30, slotOf σ 31, slotOf σ 32, slotOf σ 33, slotOf σ 34, slotOf σ 35, slotOf σ 36, slotOf σ 37, slotOf σ 38, slotOf σ 39, slotOf σ 40, slotOf σ 41, slotOf σ 42, slotOf σ 43, slotOf σ 44, slotOf σ 45, slotOf σ 46, slotOf σ 47, slotOf σ 48, slotOf σ 49, slotOf σ 50, slotOf σ 51, slotOf σ 52, slotOf σ 53, slotOf σ 54, slotOf σ 55, slotOf σ 56, slotOf σ 57, slotOf σ 58, slotOf σ 59, slotOf σ 60, slotOf σ 61, slotOf σ 62, slotOf σ 63, slotOf σ 64, slotOf σ 65, slotOf σ 66, slotOf σ 67, slotOf σ 68, slotOf σ 69, slotOf σ 70, slotOf σ 71, slotOf σ 72, slotOf σ 73, slotOf σ 74, slotOf σ 75, slotOf σ 76, slotOf σ 77, slotOf σ 78, slotOf σ 79, slotOf σ 80, slotOf σ 81, slotOf σ 82, slotOf σ 83, slotOf σ 84, slotOf σ 85, slotOf σ 86, slotOf σ 87, slotOf σ 88, slotOf σ 89, slotOf σ 90, slotOf σ 91, slotOf σ 92, slotOf σ 93, slotOf σ 94, slotOf σ 95, slotOf σ 96, slotOf σ 97, slotOf σ 98, slotOf σ 99, slotOf σ 100, slotOf σ 101, slotOf σ 102, slotOf σ 103, slotOf σ 104, slotOf σ 105, slotOf σ 106, slotOf σ 107, slotOf σ 108, slotOf σ 109, slotOf σ 110, slotOf σ 111, slotOf σ 112, slotOf σ 113, slotOf σ 114, slotOf σ 115, slotOf σ 116, slotOf σ 117, slotOf σ 118, .slice .imm (if (t.kids.map dN).isEmpty = true then 0 else 4) (t.kids.map dN), .int .i64 t.kids.length, .int .i64 i, slotOf σ 122, slotOf σ 123, .int .i64 i, .int .i64 j, slotOf σ 126, slotOf σ 127, slotOf σ 128, slotOf σ 129, slotOf σ 130, slotOf σ 131, slotOf σ 132, slotOf σ 133, slotOf σ 134, slotOf σ 135, slotOf σ 136, slotOf σ 137, slotOf σ 138, slotOf σ 139, slotOf σ 140, slotOf σ 141, slotOf σ 142, slotOf σ 143, slotOf σ 144, slotOf σ 145, slotOf σ 146, slotOf σ 147, slotOf σ 148, slotOf σ 149, slotOf σ 150, slotOf σ 151, slotOf σ 152, slotOf σ 153, slotOf σ 154, slotOf σ 155, slotOf σ 156, slotOf σ 157, slotOf σ 158, slotOf σ 159, slotOf σ 160, slotOf σ 161, slotOf σ 162, slotOf σ 163, slotOf σ 164, slotOf σ 165, slotOf σ 166, slotOf σ 167, slotOf σ 168, slotOf σ 169, slotOf σ 170, slotOf σ 171, slotOf σ 172, slotOf σ 173, slotOf σ 174, slotOf σ 175, slotOf σ 176, slotOf σ 177, slotOf σ 178, slotOf σ 179, slotOf σ 180, slotOf σ 181, slotOf σ 182], [[.int .u8 t.kind, .int .i64 t.num, .str t.name, .slice .imm (if (t.kids.map dN).isEmpty = true then 0 else 4) (t.kids.map dN)]], 0, []⟩ ∧ m = i - j ∧ j ≤ i ∧ Hid (hasN (t.kids.take j) t.kids[i].name = false)) ?_ (i) _ ?_
          rotate_left
          ·exact ⟨0, rfl, rfl, Nat.zero_le _, Lib.hid rfl⟩
          rintro m σ ⟨j, hσ, rfl, hj, hg⟩
          generalize slotOf σ = x at hσ
          subst hσ
          refine X_seq ?_
          refine X_rg fun R hR => ?_
          simp only [nat_lt, aops, astep, awant, aeff, aop, abin, aint, ev, St.put, zg1, zg0, zgd, zmo, if_true, zs1, zs0]
          with_reducible refine hR _ ?_
          clear hR R
          show X _ _ _ _
          refine X_seq ?_
          refine X_ite (by simp only [ev, zg1, zg0, zgd]; exact rfl) ?_ ?_
          ·intro b43
           have c43 := b43
           try simp only [decide_eq_true_eq] at c43
           refine X_skip ?_
           show X _ _ _ _
           refine X_seq ?_
           refine X_block ?_
           refine X_seq ?_
           refine X_rg fun R hR => ?_
           simp only [aops, astep, awant, aeff, aop, ev, St.put, zg1, zg0, zgd, zmo, if_true, zs1, zs0, b43]
           with_reducible refine hR _ ?_
           clear hR R
           show X _ _ _ _
           refine X_seq ?_
           have hlj : j < i := by first | assumption | omega
           have hljk : j < t.kids.length := by omega
           have hn1 := kid_n hlt
           have e1 : (t.kids.map dN)[i]? = some (dN t.kids[i]) := by simp [hlt]
           have e2 : (t.kids.map dN)[j]? = some (dN t.kids[j]) := by simp [hljk]
           have hl2 : ((j : Int) < (t.kids.length : Int)) = True := eq_true (by omega)
           have hl1 : ((i : Int) < (t.kids.length : Int)) = True := eq_true (by omega)
           refine X_rg fun R hR => ?_
           simp only [EVP, nat_0, nat_to, aops, astep, awant, aeff, aop, abin, astr, mkD, ev, St.put, ia_str, cl_str, ia_slice, zg1, zg0, zgd, zmo, if_true, zs1, zs0, zlm, zlc, zln, zd1, zd0, zt1, zt0, Nat.reduceAdd, Nat.reduceLeDiff, Nat.zero_add, zft, if_false, and_self, reduceCtorEq, zis, ty_string, ty_s_api_Node, ty_api_Node, und_api_Node, siz_api_Node, inf_api_Node_eq, sl, hn1, e1, e2, hl1, hl2, dN_eq t.kids[i], dN_eq t.kids[j]]
           with_reducible refine hR _ ?_
           clear hR R
           show X _ _ _ _
           refine X_ite (by simp only [ev, zg1, zg0, zgd, dN_agg]; exact rfl) ?_ ?_
           ·intro b44
            have c44 := b44
            try simp only [beq_iff_eq] at c44
            refine X_seq ?_
            have hn1 := kid_n hlt
            have e1 : (t.kids.map dN)[i]? = some (dN t.kids[i]) := by simp [hlt]
            have hl1 : ((i : Int) < (t.kids.length : Int)) = True := eq_true (by omega)
            refine X_rg fun R hR => ?_
            simp only [EVP, inr_i64, Int.reduceLE, Int.reduceNeg, nat_0, nat_to, aops, astep, awant, aeff, aop, mkD, ev, ofValue, St.put, ia_str, cl_str, ia_slice, zg1, zg0, zgd, zmo, if_true, zs1, zs0, zlm, zlc, zln, zd1, zd0, zt1, zt0, Nat.reduceAdd, Nat.reduceLeDiff, Nat.zero_add, zft, if_false, and_self, reduceCtorEq, zis, ty_string, ty_s_api_Node, ty_api_Node, und_api_Node, siz_api_Node, inf_api_Node_eq, sl, b44, hn1, e1, hl1, dN_eq t.kids[i]]
            with_reducible refine hR _ ?_
            clear hR R
            show X _ _ _ _
            refine X_ret ?_
            show resD _ _ _ = some _
            simp only [resD, resAll, resOne, resTup, Try.results41, EVP, zg1, zg0, D.good, if_true, zmo] <;> (first | (simp [rejT, c2, c20, hn27, hk115]; rfl; done) | (simp [rejT, c2, c20, hn27, hk115]; done) | (simp [rejT, c2, c12, c20, c38, c41, c42, c43, c44, hn27, hn82, hk115, al2_one hlen, al1, nmE, hnm.1, hnm.2]; done) | (simp [rejT, c2, c12, c20, c38, c41, c42, c43, c44, hn27, hn82, hk115, al2_one hlen, al1, nmE, hnm.1, hnm.2]; rfl; done) | (simp [rejT, c2, c12, c20, c38, c41, c42, c43, c44, hn27, hn82, hk115, hf.out, al2_y hlt (hg.out.trans (al1_y hjN (by assumption))), nmE, ← hNM]; done) | (simp [rejT, c2, c12, c20, c38, c41, c42, c43, c44, hn27, hn82, hk115, hf.out, al2_e (c := t.kids) (i := i) (by omega), nmE, ← hNM]; rfl; done) | (unfold rejT; rw [if_neg (by omega), if_pos (by omega)]; simp [c2, c12, c20, c38, c41, c42, c43, c44, hn27, hn82, hk115]; done) | (unfold rejT; rw [if_neg (by omega), if_pos (by omega)]; simp [c2, c12, c20, c38, c41, c42, c43, c44, hn27, hn82, hk115]; rfl; done) | (unfold rejT; rw [if_neg (by omega), if_neg (by omega), if_neg (by omega), if_neg (by omega), if_neg (by omega), if_pos (by omega), hf.out, dup_y hlt (any_true_at (p := fun m : Tr => m.name.toList == t.kids[i].name.toList) (l := t.kids.take i) (i := j) (by simp; omega) (by simp only [List.getElem_take]; rw [eqc]; assumption))]; rfl; done) | (unfold rejT; rw [if_neg (by omega), if_neg (by omega), if_neg (by omega), if_neg (by omega), if_neg (by omega), if_pos (by omega), hf.out, show t.kids.length - i = 0 from by omega]; rfl; done) | (rw [rejT_no (by omega)]; rfl; done) | (exfalso; simp_all; done))
           ·intro b45
            have c45 := b45
            try simp only [ne_eq, beq_eq_false_iff_ne] at c45
            refine X_skip ?_
            show X _ _ _ _
            have hbj : j < 9223372036854775807 := by omega
            refine X_rg fun R hR => ?_
            simp only [inr_i64, Int.reduceLE, Int.reduceNeg, aops, astep, awant, aeff, aop, abin, aint, ev, ofValue, St.put, zg1, zg0, zgd, zmo, if_true, zs1, zs0, and_self, dN_agg, b45, nat_succ hbj]
            with_reducible refine hR _ ?_
            clear hR R
            show ∃ m, m < _ ∧ _
            exact ⟨i - (j + 1), by omega, j + 1, rfl, rfl, by omega, Lib.hid (any_take_succ (p := fun m : Tr => m.name.toList == t.kids[i].name.toList) hljk hg.out (by rw [eqc]; first | assumption | simp_all))⟩
          ·intro b46
           have c46 := b46
           try simp only [decide_eq_false_iff_not] at c46
           refine X_exit ?_
           show X _ _ _ _
           have hbig : i < 9223372036854775807 := by omega
           refine X_rg fun R hR => ?_
           simp only [inr_i64, Int.reduceLE, Int.reduceNeg, aops, astep, awant, aeff, aop, abin, aint, ev, ofValue, St.put, zg1, zg0, zgd, zmo, if_true, zs1, zs0, and_self, b46, nat_succ hbig]
           with_reducible refine hR _ ?_
           clear hR R
           show ∃ m, m < _ ∧ _
           exact ⟨t.kids.length - (i + 1), by omega, i + 1, rfl, rfl, by omega, Lib.hid (hf.out.trans (dup_n hlt (by have := hg.out; rw [show j = i from by omega] at this; exact this)))⟩
         ·intro b47
          have c47 := b47
          try simp only [decide_eq_false_iff_not] at c47
          refine X_exit ?_
          show X _ _ _ _
          refine X_seq ?_
          refine X_rg fun R hR => ?_
          simp only [inr_i64, Int.reduceLE, Int.reduceNeg, aops, astep, awant, aeff, aop, ev, ofValue, St.put, zgd, zmo, if_true, zs1, zs0, and_self, emp_ok, b47]
          with_reducible refine hR _ ?_
          clear hR R
          show X _ _ _ _
          refine X_ret ?_
          show resD _ _ _ = some _
          simp only [resD, resAll, resOne, resTup, Try.results41, EVP, zg1, zg0, D.good, if_true, zmo] <;> (first | (simp [rejT, c2, c20, hn27, hk115]; rfl; done) | (simp [rejT, c2, c20, hn27, hk115]; done) | (simp [rejT, c2, c12, c20, c38, c41, c47, hn27, hn82, hk115, al2_one hlen, al1, nmE, hnm.1, hnm.2]; done) | (simp [rejT, c2, c12, c20, c38, c41, c47, hn27, hn82, hk115, al2_one hlen, al1, nmE, hnm.1, hnm.2]; rfl; done) | (simp [rejT, c2, c12, c20, c38, c41, c47, hn27, hn82, hk115, hf.out, al2_y hlt (hg.out.trans (al1_y hjN (by assumption))), nmE, ← hNM]; done) | (simp [rejT, c2, c20, hn27, hk115, hf.out, nmE]; rfl; done) | (unfold rejT; rw [if_neg (by omega), if_pos (by omega)]; simp [c2, c12, c20, c38, c41, c47, hn27, hn82, hk115]; done) | (unfold rejT; rw [if_neg (by omega), if_pos (by omega)]; simp [c2, c12, c20, c38, c41, c47, hn27, hn82, hk115]; rfl; done) | (unfold rejT; rw [if_neg (by omega), if_neg (by omega), if_neg (by omega), if_neg (by omega), if_neg (by omega), if_pos (by omega), hf.out, dup_y hlt (any_true_at (p := fun m : Tr => m.name.toList == t.kids[i].name.toList) (l := t.kids.take i) (i := j) (by simp; omega) (by simp only [List.getElem_take]; rw [eqc]; assumption))]; rfl; done) | (unfold rejT; rw [if_neg (by omega), if_neg (by omega), if_neg (by omega), if_neg (by omega), if_neg (by omega), if_pos (by omega), hf.out, show t.kids.length - i = 0 from by omega]; rfl; done) | (rw [rejT_no (by omega)]; rfl; done) | (exfalso; simp_all; done))
        ·intro b48
         have c48 := b48
         try simp only [znt, znf, decide_eq_true_eq, decide_eq_false_iff_not, beq_iff_eq, Int.not_lt, Int.not_le, ge_iff_le, gt_iff_lt, bne_iff_ne, ne_eq, bne_eq_false_iff_eq, beq_eq_false_iff_ne, zat, zof] at c48
         have hn115 := of_decide_eq_false (hg115.symm.trans b48)
         refine X_seq ?_
         refine X_rg fun R hR => ?_
         simp only [inr_u8, Int.reduceLE, aops, astep, awant, aeff, aop, abin, aint, ev, ofValue, St.put, zg1, zg0, zgd, zmo, if_true, zs1, zs0, and_self, b48]
         with_reducible refine hR _ ?_
         clear hR R
         show X _ _ _ _
         refine X_ite (by simp only [ev, zg1, zg0, zgd]; exact rfl) ?_ ?_
         ·intro b49
          have c49 := b49
          try simp only [beq_iff_eq] at c49
          refine X_seq ?_
          have hlen := (okN_len hok).2.2 (by first | (simp [*]; done) | omega)
          have hlt0 : 0 < t.kids.length := by omega
          have hn0 := kid_n hlt0
          have he0 := kid_e hlt0
          have hl0 : ((0 : Int) < (t.kids.length : Int)) = True := eq_true (by omega)
          have hC0 := const_fn (kidN t 0) (kidN_size hs)
          refine X_rg fun R hR => ?_
          simp only [EVP, inr_i64, Int.reduceLE, Int.reduceNeg, aops, astep, awant, aeff, aop, mkD, ev, ofValue, St.put, pcall, ia_slice, zmc, zmn, zg1, zg0, zgd, zmo, if_true, zs1, zs0, zlm, zlc, zln, zd1, zd0, zt1, zt0, zca, zna, Nat.reduceAdd, Nat.reduceLeDiff, Nat.zero_add, zft, if_false, and_self, reduceCtorEq, zis, ty_s_api_Node, ty_api_Node, und_api_Node, siz_api_Node, inf_api_Node_eq, any67, dN_cells, dN_isAgg, sl, b49, hn0, he0, hl0, Int.toNat_zero, hC0]
          with_reducible refine hR _ ?_
          clear hR R
          show X _ _ _ _
          refine X_seq ?_
          have hlen := (okN_len hok).2.2 (by first | (simp [*]; done) | omega)
          have hlt3 : 3 < t.kids.length := by omega
          have hn3 := kid_n hlt3
          have he3 := kid_e hlt3
          have hl3 : ((3 : Int) < (t.kids.length : Int)) = True := eq_true (by omega)
          have hC3 := const_fn (kidN t 3) (kidN_size hs)
          refine X_rg fun R hR => ?_
          simp only [EVP, inr_i64, Int.reduceLE, Int.reduceNeg, aops, astep, awant, aeff, aop, mkD, ev, ofValue, St.put, pcall, ia_slice, zmc, zmn, zg1, zg0, zgd, zmo, if_true, zs1, zs0, zlm, zlc, zln, zd1, zd0, zt1, zt0, zca, zna, Nat.reduceAdd, Nat.reduceLeDiff, Nat.zero_add, zft, if_false, and_self, reduceCtorEq, zis, ty_s_api_Node, ty_api_Node, und_api_Node, siz_api_Node, inf_api_Node_eq, any67, dN_cells, dN_isAgg, sl, hn3, he3, hl3, Int.reduceToNat, hC3]
          with_reducible refine hR _ ?_
          clear hR R
          show X _ _ _ _
          refine X_seq ?_
          refine X_y ?_
          refine Y_k 2 fun R hR => ?_
          simp only [EVP, aops, astep, awant, aeff, aop, ev, St.put, zg1, zg0, zgd, zmo, if_true, zs1, zs0, zt1, zt0]
          with_reducible refine hR _ ?_
          clear hR R
          simp only [zd1, zd0]
          refine Y_if 168 (by simp only [ev, zg1, zg0, zgd]; exact rfl) ?_ ?_
          ·intro b50
           have c50 := b50
           try simp only [znt, znf, decide_eq_true_eq, decide_eq_false_iff_not, beq_iff_eq, Int.not_lt, Int.not_le, ge_iff_le, gt_iff_lt, bne_iff_ne, ne_eq, bne_eq_false_iff_eq, beq_eq_false_iff_ne, zat, zof] at c50
           refine Y_end fun R hR => ?_
           simp only [aops, astep, awant, aeff, aop, ev, ofValue, St.put, zg1, zg0, zgd, zmo, zbs, if_true, zs1, zs0, beq_self_eq_true, b50]
           with_reducible refine hR _ ?_
           clear hR R
           show X _ _ _ _
           refine X_ite (by simp only [ev, zg1, zg0, zgd]; exact rfl) ?_ ?_
           ·intro b51
            have c51 := b51
            try simp only [znt] at c51
            refine X_seq ?_
            refine X_rg fun R hR => ?_
            simp only [inr_i64, Int.reduceLE, Int.reduceNeg, aops, astep, awant, aeff, aop, ev, ofValue, St.put, zgd, zmo, if_true, zs1, zs0, and_self, emp_ok, b51]
            with_reducible refine hR _ ?_
            clear hR R
            show X _ _ _ _
            refine X_ret ?_
            show resD _ _ _ = some _
            simp only [resD, resAll, resOne, resTup, Try.results41, EVP, zg1, zg0, D.good, if_true, zmo] <;> (first | (simp [rejT, c49, c50, c51]; rfl; done) | (simp [rejT, c2, c12, c20, c38, c48, c49, c50, c51, hn27, hn82, hn115]; done) | (simp [rejT, c2, c12, c20, c38, c48, c49, c50, c51, hn27, hn82, hn115, al2_one hlen, al1, nmE, hnm.1, hnm.2]; done) | (simp [rejT, c2, c12, c20, c38, c48, c49, c50, c51, hn27, hn82, hn115, al2_one hlen, al1, nmE, hnm.1, hnm.2]; rfl; done) | (simp [rejT, c2, c12, c20, c38, c48, c49, c50, c51, hn27, hn82, hn115, hf.out, al2_y hlt (hg.out.trans (al1_y hjN (by assumption))), nmE, ← hNM]; done) | (simp [rejT, c2, c12, c20, c38, c48, c49, c50, c51, hn27, hn82, hn115, hf.out, al2_e (c := t.kids) (i := i) (by omega), nmE, ← hNM]; rfl; done) | (unfold rejT; rw [if_neg (by omega), if_pos (by omega)]; simp [c2, c12, c20, c38, c48, c49, c50, c51, hn27, hn82, hn115]; done) | (unfold rejT; rw [if_neg (by omega), if_pos (by omega)]; simp [c2, c12, c20, c38, c48, c49, c50, c51, hn27, hn82, hn115]; rfl; done) | (unfold rejT; rw [if_neg (by omega), if_neg (by omega), if_neg (by omega), if_neg (by omega), if_neg (by omega), if_pos (by omega), hf.out, dup_y hlt (any_true_at (p := fun m : Tr => m.name.toList == t.kids[i].name.toList) (l := t.kids.take i) (i := j) (by simp; omega) (by simp only [List.getElem_take]; rw [eqc]; assumption))]; rfl; done) | (unfold rejT; rw [if_neg (by omega), if_neg (by omega), if_neg (by omega), if_neg (by omega), if_neg (by omega), if_pos (by omega), hf.out, show t.kids.length - i = 0 from by omega]; rfl; done) | (rw [rejT_no (by omega)]; rfl; done) | (exfalso; simp_all; done))
           ·intro b52
            have c52 := b52
            try simp only [znf] at c52
            refine X_skip ?_
            show X _ _ _ _
            refine X_seq ?_
            refine X_rg fun R hR => ?_
            simp only [inr_i64, Int.reduceLE, Int.reduceNeg, aops, astep, awant, aeff, aop, ev, ofValue, St.put, zgd, zmo, if_true, zs1, zs0, and_self, emp_ok, b52]
            with_reducible refine hR _ ?_
            clear hR R
            show X _ _ _ _
            refine X_ret ?_
            show resD _ _ _ = some _
            simp only [resD, resAll, resOne, resTup, Try.results41, EVP, zg1, zg0, D.good, if_true, zmo] <;> (first | (simp [rejT, c49, c50, c52]; rfl; done) | (simp [rejT, c2, c12, c20, c38, c48, c49, c50, c52, hn27, hn82, hn115]; done) | (simp [rejT, c2, c12, c20, c38, c48, c49, c50, c52, hn27, hn82, hn115, al2_one hlen, al1, nmE, hnm.1, hnm.2]; done) | (simp [rejT, c2, c12, c20, c38, c48, c49, c50, c52, hn27, hn82, hn115, al2_one hlen, al1, nmE, hnm.1, hnm.2]; rfl; done) | (simp [rejT, c2, c12, c20, c38, c48, c49, c50, c52, hn27, hn82, hn115, hf.out, al2_y hlt (hg.out.trans (al1_y hjN (by assumption))), nmE, ← hNM]; done) | (simp [rejT, c2, c12, c20, c38, c48, c49, c50, c52, hn27, hn82, hn115, hf.out, al2_e (c := t.kids) (i := i) (by omega), nmE, ← hNM]; rfl; done) | (unfold rejT; rw [if_neg (by omega), if_pos (by omega)]; simp [c2, c12, c20, c38, c48, c49, c50, c52, hn27, hn82, hn115]; done) | (unfold rejT; rw [if_neg (by omega), if_pos (by omega)]; simp [c2, c12, c20, c38, c48, c49, c50, c52, hn27, hn82, hn115]; rfl; done) | (unfold rejT; rw [if_neg (by omega), if_neg (by omega), if_neg (by omega), if_neg (by omega), if_neg (by omega), if_pos (by omega), hf.out, dup_y hlt (any_true_at (p := fun m : Tr => m.name.toList == t.kids[i].name.toList) (l := t.kids.take i) (i := j) (by simp; omega) (by simp only [List.getElem_take]; rw [eqc]; assumption))]; rfl; done) | (unfold rejT; rw [if_neg (by omega), if_neg (by omega), if_neg (by omega), if_neg (by omega), if_neg (by omega), if_pos (by omega), hf.out, show t.kids.length - i = 0 from by omega]; rfl; done) | (rw [rejT_no (by omega)]; rfl; done) | (exfalso; simp_all; done))
          ·intro b53
           have c53 := b53
           try simp only [znt, znf, decide_eq_true_eq, decide_eq_false_iff_not, beq_iff_eq, Int.not_lt, Int.not_le, ge_iff_le, gt_iff_lt, bne_iff_ne, ne_eq, bne_eq_false_iff_eq, beq_eq_false_iff_ne, zat, zof] at c53
           refine Y_end fun R hR => ?_
           simp only [aops, astep, awant, aeff, aop, ev, ofValue, St.put, zg1, zg0, zgd, zmo, Option.map_none, zbs, if_true, zs1, zs0, zft, if_false, bq_ft, b53]
           with_reducible refine hR _ ?_
           clear hR R
           show X _ _ _ _
           refine X_false (by simp only [ev, zg1, zg0, zgd]) ?_
           refine X_skip ?_
           show X _ _ _ _
           refine X_seq ?_
           refine X_rg fun R hR => ?_
           simp only [inr_i64, Int.reduceLE, Int.reduceNeg, aops, astep, awant, aeff, aop, ev, ofValue, St.put, zgd, zmo, if_true, zs1, zs0, and_self, emp_ok]
           with_reducible refine hR _ ?_
           clear hR R
           show X _ _ _ _
           refine X_ret ?_
           show resD _ _ _ = some _
           simp only [resD, resAll, resOne, resTup, Try.results41, EVP, zg1, zg0, D.good, if_true, zmo] <;> (first | (simp [rejT, c49, c53]; rfl; done) | (simp [rejT, c2, c12, c20, c38, c48, c49, c53, hn27, hn82, hn115]; done) | (simp [rejT, c2, c12, c20, c38, c48, c49, c53, hn27, hn82, hn115, al2_one hlen, al1, nmE, hnm.1, hnm.2]; done) | (simp [rejT, c2, c12, c20, c38, c48, c49, c53, hn27, hn82, hn115, al2_one hlen, al1, nmE, hnm.1, hnm.2]; rfl; done) | (simp [rejT, c2, c12, c20, c38, c48, c49, c53, hn27, hn82, hn115, hf.out, al2_y hlt (hg.out.trans (al1_y hjN (by assumption))), nmE, ← hNM]; done) | (simp [rejT, c2, c12, c20, c38, c48, c49, c53, hn27, hn82, hn115, hf.out, al2_e (c := t.kids) (i := i) (by omega), nmE, ← hNM]; rfl; done) | (unfold rejT; rw [if_neg (by omega), if_pos (by omega)]; simp [c2, c12, c20, c38, c48, c49, c53, hn27, hn82, hn115]; done) | (unfold rejT; rw [if_neg (by omega), if_pos (by omega)]; simp [c2, c12, c20, c38, c48, c49, c53, hn27, hn82, hn115]; rfl; done) | (unfold rejT; rw [if_neg (by omega), if_neg (by omega), if_neg (by omega), if_neg (by omega), if_neg (by omega), if_pos (by omega), hf.out, dup_y hlt (any_true_at (p := fun m : Tr => m.name.toList == t.kids[i].name.toList) (l := t.kids.take i) (i := j) (by simp; omega) (by simp only [List.getElem_take]; rw [eqc]; assumption))]; rfl; done) | (unfold rejT; rw [if_neg (by omega), if_neg (by omega), if_neg (by omega), if_neg (by omega), if_neg (by omega), if_pos (by omega), hf.out, show t.kids.length - i = 0 from by omega]; rfl; done) | (rw [rejT_no (by omega)]; rfl; done) | (exfalso; simp_all; done))
         ·intro b54
          have c54 := b54
          try simp only [ne_eq, beq_eq_false_iff_ne] at c54
          refine X_seq ?_
          refine X_rg fun R hR => ?_
          simp only [inr_u8, Int.reduceLE, aops, astep, awant, aeff, aop, abin, aint, ev, ofValue, St.put, zg1, zg0, zgd, zmo, if_true, zs1, zs0, and_self, b54]
          with_reducible refine hR _ ?_
          clear hR R
          show X _ _ _ _
          refine X_ite (by simp only [ev, zg1, zg0, zgd]; exact rfl) ?_ ?_
          ·intro b55
           have c55 := b55
           try simp only [beq_iff_eq] at c55
           refine X_seq ?_
           have hlen := (okN_len hok).2.2 (by first | (simp [*]; done) | omega)
           have hlt0 : 0 < t.kids.length := by omega
           have hn0 := kid_n hlt0
           have he0 := kid_e hlt0
           have hl0 : ((0 : Int) < (t.kids.length : Int)) = True := eq_true (by omega)
           have hC0 := const_fn (kidN t 0) (kidN_size hs)
           refine X_rg fun R hR => ?_
           simp only [EVP, inr_i64, Int.reduceLE, Int.reduceNeg, aops, astep, awant, aeff, aop, mkD, ev, ofValue, St.put, pcall, ia_slice, zmc, zmn, zg1, zg0, zgd, zmo, if_true, zs1, zs0, zlm, zlc, zln, zd1, zd0, zt1, zt0, zca, zna, Nat.reduceAdd, Nat.reduceLeDiff, Nat.zero_add, zft, if_false, and_self, reduceCtorEq, zis, ty_s_api_Node, ty_api_Node, und_api_Node, siz_api_Node, inf_api_Node_eq, any67, dN_cells, dN_isAgg, sl, b55, hn0, he0, hl0, Int.toNat_zero, hC0]
           with_reducible refine hR _ ?_
           clear hR R
           show X _ _ _ _
           refine X_seq ?_
           refine X_rg fun R hR => ?_
           simp only [aops, astep, awant, aeff, aop, ev, St.put, zg1, zg0, zgd, zmo, if_true, zs1, zs0]
           with_reducible refine hR _ ?_
           clear hR R
           show X _ _ _ _
           refine X_ite (by simp only [ev, zg1, zg0, zgd]; exact rfl) ?_ ?_
           ·intro b56
            have c56 := b56
            try simp only [znt, znf, decide_eq_true_eq, decide_eq_false_iff_not, beq_iff_eq, Int.not_lt, Int.not_le, ge_iff_le, gt_iff_lt, bne_iff_ne, ne_eq, bne_eq_false_iff_eq, beq_eq_false_iff_ne, zat, zof] at c56
            refine X_seq ?_
            refine X_rg fun R hR => ?_
            simp only [inr_i64, Int.reduceLE, Int.reduceNeg, aops, astep, awant, aeff, aop, ev, ofValue, St.put, zgd, zmo, if_true, zs1, zs0, and_self, emp_ok, b56]
            with_reducible refine hR _ ?_
            clear hR R
            show X _ _ _ _
            refine X_ret ?_
            show resD _ _ _ = some _
            simp only [resD, resAll, resOne, resTup, Try.results41, EVP, zg1, zg0, D.good, if_true, zmo] <;> (first | (simp [rejT, c55, c56]; rfl; done) | (simp [rejT, c2, c12, c20, c38, c48, c54, c55, c56, hn27, hn82, hn115]; done) | (simp [rejT, c2, c12, c20, c38, c48, c54, c55, c56, hn27, hn82, hn115, al2_one hlen, al1, nmE, hnm.1, hnm.2]; done) | (simp [rejT, c2, c12, c20, c38, c48, c54, c55, c56, hn27, hn82, hn115, al2_one hlen, al1, nmE, hnm.1, hnm.2]; rfl; done) | (simp [rejT, c2, c12, c20, c38, c48, c54, c55, c56, hn27, hn82, hn115, hf.out, al2_y hlt (hg.out.trans (al1_y hjN (by assumption))), nmE, ← hNM]; done) | (simp [rejT, c2, c12, c20, c38, c48, c54, c55, c56, hn27, hn82, hn115, hf.out, al2_e (c := t.kids) (i := i) (by omega), nmE, ← hNM]; rfl; done) | (unfold rejT; rw [if_neg (by omega), if_pos (by omega)]; simp [c2, c12, c20, c38, c48, c54, c55, c56, hn27, hn82, hn115]; done) | (unfold rejT; rw [if_neg (by omega), if_pos (by omega)]; simp [c2, c12, c20, c38, c48, c54, c55, c56, hn27, hn82, hn115]; rfl; done) | (unfold rejT; rw [if_neg (by omega), if_neg (by omega), if_neg (by omega), if_neg (by omega), if_neg (by omega), if_pos (by omega), hf.out, dup_y hlt (any_true_at (p := fun m : Tr => m.name.toList == t.kids[i].name.toList) (l := t.kids.take i) (i := j) (by simp; omega) (by simp only [List.getElem_take]; rw [eqc]; assumption))]; rfl; done) | (unfold rejT; rw [if_neg (by omega), if_neg (by omega), if_neg (by omega), if_neg (by omega), if_neg (by omega), if_pos (by omega), hf.out, show t.kids.length - i = 0 from by omega]; rfl; done) | (rw [rejT_no (by omega)]; rfl; done) | (exfalso; simp_all; done))
           ·intro b57
            have c57 := b57
            try simp only [znt, znf, decide_eq_true_eq, decide_eq_false_iff_not, beq_iff_eq, Int.not_lt, Int.not_le, ge_iff_le, gt_iff_lt, bne_iff_ne, ne_eq, bne_eq_false_iff_eq, beq_eq_false_iff_ne, zat, zof] at c57
            refine X_skip ?_
            show X _ _ _ _
            refine X_seq ?_
            refine X_rg fun R hR => ?_
            simp only [inr_i64, Int.reduceLE, Int.reduceNeg, aops, astep, awant, aeff, aop, ev, ofValue, St.put, zgd, zmo, if_true, zs1, zs0, and_self, emp_ok, b57]
            with_reducible refine hR _ ?_
            clear hR R
            show X _ _ _ _
            refine X_ret ?_
            show resD _ _ _ = some _
            simp only [resD, resAll, resOne, resTup, Try.results41, EVP, zg1, zg0, D.good, if_true, zmo] <;> (first | (simp [rejT, c55, c57]; rfl; done) | (simp [rejT, c2, c12, c20, c38, c48, c54, c55, c57, hn27, hn82, hn115]; done) | (simp [rejT, c2, c12, c20, c38, c48, c54, c55, c57, hn27, hn82, hn115, al2_one hlen, al1, nmE, hnm.1, hnm.2]; done) | (simp [rejT, c2, c12, c20, c38, c48, c54, c55, c57, hn27, hn82, hn115, al2_one hlen, al1, nmE, hnm.1, hnm.2]; rfl; done) | (simp [rejT, c2, c12, c20, c38, c48, c54, c55, c57, hn27, hn82, hn115, hf.out, al2_y hlt (hg.out.trans (al1_y hjN (by assumption))), nmE, ← hNM]; done) | (simp [rejT, c2, c12, c20, c38, c48, c54, c55, c57, hn27, hn82, hn115, hf.out, al2_e (c := t.kids) (i := i) (by omega), nmE, ← hNM]; rfl; done) | (unfold rejT; rw [if_neg (by omega), if_pos (by omega)]; simp [c2, c12, c20, c38, c48, c54, c55, c57, hn27, hn82, hn115]; done) | (unfold rejT; rw [if_neg (by omega), if_pos (by omega)]; simp [c2, c12, c20, c38, c48, c54, c55, c57, hn27, hn82, hn115]; rfl; done) | (unfold rejT; rw [if_neg (by omega), if_neg (by omega), if_neg (by omega), if_neg (by omega), if_neg (by omega), if_pos (by omega), hf.out, dup_y hlt (any_true_at (p := fun m : Tr => m.name.toList == t.kids[i].name.toList) (l := t.kids.take i) (i := j) (by simp; omega) (by simp only [List.getElem_take]; rw [eqc]; assumption))]; rfl; done) | (unfold rejT; rw [if_neg (by omega), if_neg (by omega), if_neg (by omega), if_neg (by omega), if_neg (by omega), if_pos (by omega), hf.out, show t.kids.length - i = 0 from by omega]; rfl; done) | (rw [rejT_no (by omega)]; rfl; done) | (exfalso; simp_all; done))
          ·intro b58
           have c58 := b58
           try simp only [ne_eq, beq_eq_false_iff_ne] at c58
           refine X_skip ?_
           show X _ _ _ _
           refine X_seq ?_
           refine X_rg fun R hR => ?_
           simp only [inr_i64, Int.reduceLE, Int.reduceNeg, aops, astep, awant, aeff, aop, ev, ofValue, St.put, zgd, zmo, if_true, zs1, zs0, and_self, emp_ok, b58]
           with_reducible refine hR _ ?_
           clear hR R
           show X _ _ _ _
           refine X_ret ?_
           show resD _ _ _ = some _
           simp only [resD, resAll, resOne, resTup, Try.results41, EVP, zg1, zg0, D.good, if_true, zmo] <;> (first | (simp [rejT, c2, c20, c54, c58, hn27, hn115]; rfl; done) | (simp [rejT, c2, c20, c54, c58, hn27, hn115]; done) | (simp [rejT, c2, c12, c20, c38, c48, c54, c58, hn27, hn82, hn115, al2_one hlen, al1, nmE, hnm.1, hnm.2]; done) | (simp [rejT, c2, c12, c20, c38, c48, c54, c58, hn27, hn82, hn115, al2_one hlen, al1, nmE, hnm.1, hnm.2]; rfl; done) | (simp [rejT, c2, c12, c20, c38, c48, c54, c58, hn27, hn82, hn115, hf.out, al2_y hlt (hg.out.trans (al1_y hjN (by assumption))), nmE, ← hNM]; done) | (simp [rejT, c2, c12, c20, c38, c48, c54, c58, hn27, hn82, hn115, hf.out, al2_e (c := t.kids) (i := i) (by omega), nmE, ← hNM]; rfl; done) | (unfold rejT; rw [if_neg (by omega), if_pos (by omega)]; simp [c2, c12, c20, c38, c48, c54, c58, hn27, hn82, hn115]; done) | (unfold rejT; rw [if_neg (by omega), if_pos (by omega)]; simp [c2, c12, c20, c38, c48, c54, c58, hn27, hn82, hn115]; rfl; done) | (unfold rejT; rw [if_neg (by omega), if_neg (by omega), if_neg (by omega), if_neg (by omega), if_neg (by omega), if_pos (by omega), hf.out, dup_y hlt (any_true_at (p := fun m : Tr => m.name.toList == t.kids[i].name.toList) (l := t.kids.take i) (i := j) (by simp; omega) (by simp only [List.getElem_take]; rw [eqc]; assumption))]; rfl; done) | (unfold rejT; rw [if_neg (by omega), if_neg (by omega), if_neg (by omega), if_neg (by omega), if_neg (by omega), if_pos (by omega), hf.out, show t.kids.length - i = 0 from by omega]; rfl; done) | (rw [rejT_no (by omega)]; rfl; done) | (exfalso; simp_all; done))

end Go.Proofs.Ytmglacjcefajlaa
