/- The checker over data: mentions, index, alias, reject. -/
import Derived.Test.YtmglacjcefajlaaCk0
namespace Go.Proofs.Ytmglacjcefajlaa
open Go.RowKit

theorem ty_checker_Rejection : tyOf Try.prog 43 = some { sz := 4, agg := true, flds := [(0, 1, false), (1, 1, false), (2, 1, false), (3, 1, false)], elem := none, zero := some [.int .i64 0, .slice .nil 0 [], .int .i64 0, .str ⟨#[]⟩], bytes := 56 } := by kernel_rfl
theorem ty_s_checker_Rejection : tyOf Try.prog 31 = some { sz := 1, agg := false, flds := [], elem := some 43, zero := some [.slice .nil 0 []], bytes := 24 } := by kernel_rfl
noncomputable def fs_checker_Rejection : Array Field := match Try.prog.underlying 43 with | some (.struct fs) => fs | _ => #[]
theorem st_checker_Rejection : Try.prog.underlying 43 = some (.struct fs_checker_Rejection) := by kernel_rfl
theorem sta_checker_Rejection : (fs_checker_Rejection.toList.all fun f => (Try.prog.info? f.type).isSome) = true := by kernel_rfl
theorem und_checker_Rejection : Try.prog.underlying 31 = some (.slice 43) := by kernel_rfl
theorem siz_checker_Rejection : Try.prog.cellsOf 43 = 4 := by kernel_rfl
noncomputable def inf_checker_Rejection : TypeInfo := (Try.prog.info? 43).getD default
theorem inf_checker_Rejection_eq : Try.prog.info? 43 = some inf_checker_Rejection := by kernel_rfl
theorem inf_checker_Rejection_size : inf_checker_Rejection.size = 4 := by kernel_rfl
theorem inf_checker_Rejection_bytes : inf_checker_Rejection.bytes = 56 := by kernel_rfl
theorem inf_checker_Rejection_zero : inf_checker_Rejection.zero.isSome = true := by kernel_rfl
theorem inf_checker_Rejection_zc : (inf_checker_Rejection.zero.map fun z => z.cells.size) = some 4 := by kernel_rfl
theorem emp_ok : (if (⟨#[]⟩ : ByteArray).size ≤ 9223372036854775807 then some (D.str ⟨#[]⟩) else none) = some (D.str ⟨#[]⟩) := rfl
set_option maxRecDepth 100000 in
set_option maxHeartbeats 4000000 in
theorem ment_fn (s : ByteArray) (t : Tr) (hs : t.size ≤ 1000000) : fn EV 69 [dN t, .str s] = some (.bool (mentE s t)) := by
 refine fn_X rfl Try.func69 rfl (by simp only [plain, List.all_cons, List.all_nil, dN_pl, str_pl, Bool.and_true]) (rfl) (rfl) (rfl) ?_
 simp only [zmc, zmn, D.strip, dN_strip]
 simp only [enterSt, Try.ntmps69, zlc, zln, Nat.reduceAdd, Nat.reduceSub, zr1, zr0, zca, zna]
 refine X_seq ?_
 refine X_rg fun R hR => ?_
 simp only [EVP, aops, astep, awant, aeff, ev, St.put, gd_str, cl_str, zg1, zg0, zgd, zmo, zbs, if_true, zs1, zs0, zlc, zln, zca, zna, Nat.reduceAdd, Nat.zero_add, ty_bool, dN_cells, dN_good, sl]
 with_reducible refine hR _ ?_
 clear hR R
 show X _ _ _ _
 refine X_seq ?_
 refine X_seq ?_
 have hW := o_ast_Walk t hs
 refine X_rg fun R hR => ?_
 simp only [EVP, aops, astep, awant, aeff, aop, mkD, ev, St.put, pcall, zmc, zmn, zg1, zg0, zgd, zmo, if_true, zs1, zs0, zlc, zln, zd0, zt1, zt0, zca, zna, Nat.reduceAdd, Nat.reduceLeDiff, Nat.zero_add, ty_api_Node, any40, dN_agg, hW]
 with_reducible refine hR _ ?_
 clear hR R
 show X _ _ _ _
 refine X_block ?_
 refine X_range (L := walkD t) (by simp only [ev, zg1, zg0, zgd]) ?_
 refine XR_inv (fun L σ => ∃ (fr : List D) (r : List (List D)) (W : List (List Int × Tr)), σ = ⟨fr, [.int .u8 t.kind, .int .i64 t.num, .str t.name, .slice .imm (if (t.kids.map dN).isEmpty = true then 0 else 4) (t.kids.map dN)] :: [.str s] :: [.bool false] :: r, 0, []⟩ ∧ L = W.map (fun x : List Int × Tr => [sl 1 (x.1.map dI), dN x.2]) ∧ Hid (mentE s t = W.any (fun x => hitE s x.2))) ?_ ?_ _ _ ?_
 rotate_right
 ·refine ⟨_, [], walkL [] t, rfl, rfl, Lib.hid (ment_walk s t []).symm⟩
 ·rintro σ ⟨fr, r, W, rfl, hL, hm⟩
  have hW0 : W = [] := by cases W with | nil => rfl | cons a b => cases hL
  subst hW0
  show X _ _ _ _
  refine X_seq ?_
  refine X_rg fun R hR => ?_
  simp only [EVP, aops, astep, awant, aeff, astore, ev, ofValue, St.put, gd_bool, cl_bool, zg1, zg0, zgd, zmo, if_true, zs1, zs0, zlc, zln, zd1, zd0, zt0, zca, zna, Nat.reduceLeDiff, Nat.zero_add, and_self, ty_bool]
  with_reducible refine hR _ ?_
  clear hR R
  show X _ _ _ _
  refine X_ret ?_
  show resD _ _ _ = some _
  simp only [resD, resAll, resOne, resTup, Try.results69, EVP, mkD, ty_bool, zg1, zg0, zd0, zt1, zt0, zlc, zln, Nat.reduceLeDiff, Nat.zero_add, if_true, zft, if_false, D.isAgg, zmo] <;> (first | (rw [hm.out]; rfl; done) | (rw [hm.out, show hitE s m = true from by clear hm; simp_all [hitE]]; rfl; done) | (exfalso; simp_all; done) | (trace_state; fail))
 ·rintro row L σ ⟨fr, r, W, rfl, hL, hm⟩
  obtain ⟨x, W2, rfl⟩ : ∃ x W2, W = x :: W2 := by cases W with | nil => cases hL | cons a b => exact ⟨a, b, rfl⟩
  simp only [zmc, List.cons.injEq] at hL
  obtain ⟨rfl, rfl⟩ := hL
  obtain ⟨px, m⟩ := x
  simp only [List.any_cons] at hm
  refine ⟨by simp only [zlc, zln], ?_⟩
  simp only [setPs, zs1, zs0]
  refine X_rg fun R hR => ?_
  simp only [EVP, app_get0, app_set0, aops, astep, awant, aeff, astore, ev, St.put, zg1, zg0, zgd, zmo, zbs, if_true, zs1, zs0, zlc, zln, zd1, zd0, zt0, zca, zna, Nat.reduceAdd, Nat.reduceLeDiff, Nat.zero_add, and_self, ty_api_Node, dN_cells, dN_good, sl]
  with_reducible refine hR _ ?_
  clear hR R
  refine ⟨rfl, ?_⟩
  refine X_block ?_
  refine X_seq ?_
  refine X_rg fun R hR => ?_
  simp only [EVP, app_get0, aops, astep, awant, aeff, aop, mkD, ev, St.put, ia_int, zg1, zg0, zgd, zmo, if_true, zs1, zs0, zlc, zln, zd0, zt1, zt0, Nat.reduceAdd, Nat.reduceLeDiff, Nat.zero_add, Nat.add_zero, zft, if_false, reduceCtorEq, ty_uint8, ty_api_Node]
  with_reducible refine hR _ ?_
  clear hR R
  show X _ _ _ _
  refine X_block ?_
  refine X_seq ?_
  refine X_seq ?_
  refine X_rg fun R hR => ?_
  simp only [inr_u8, Int.reduceLE, aops, astep, awant, aeff, aop, abin, aint, ev, ofValue, St.put, zg1, zg0, zgd, zmo, if_true, zs1, zs0, and_self]
  with_reducible refine hR _ ?_
  clear hR R
  show X _ _ _ _
  refine X_ite (by simp only [ev, zg1, zg0, zgd]; exact rfl) ?_ ?_
  ·intro b1
   have c1 := b1
   try simp only [beq_iff_eq] at c1
   refine X_skip ?_
   show X _ _ _ _
   refine X_true (by simp only [ev, zg1, zg0, zgd, beq_self_eq_true, c1]) ?_
   refine X_seq ?_
   refine X_rg fun R hR => ?_
   simp only [EVP, app_get0, aops, astep, awant, aeff, aop, abin, astr, mkD, ev, St.put, ia_str, zg1, zg0, zgd, zmo, if_true, zs1, zs0, zlc, zln, zd1, zd0, zt1, zt0, Nat.reduceAdd, Nat.reduceLeDiff, Nat.zero_add, zft, if_false, reduceCtorEq, beq_self_eq_true, ty_string, ty_api_Node, c1]
   with_reducible refine hR _ ?_
   clear hR R
   show X _ _ _ _
   refine X_ite (by simp only [ev, zg1, zg0, zgd]; exact rfl) ?_ ?_
   ·intro b2
    have c2 := b2
    try simp only [beq_iff_eq] at c2
    refine X_seq ?_
    refine X_rg fun R hR => ?_
    simp only [EVP, aops, astep, awant, aeff, astore, ev, ofValue, St.put, gd_bool, cl_bool, zg1, zg0, zgd, zmo, if_true, zs1, zs0, zlc, zln, zd1, zd0, zt0, zca, zna, Nat.reduceLeDiff, Nat.zero_add, and_self, beq_self_eq_true, ty_bool, c2]
    with_reducible refine hR _ ?_
    clear hR R
    show X _ _ _ _
    refine X_ret ?_
    show resD _ _ _ = some _
    simp only [resD, resAll, resOne, resTup, Try.results69, EVP, mkD, ty_bool, zg1, zg0, zd0, zt1, zt0, zlc, zln, Nat.reduceLeDiff, Nat.zero_add, if_true, zft, if_false, D.isAgg, zmo] <;> (first | (rw [hm.out]; rfl; done) | (rw [hm.out, show hitE s m = true from by clear hm; simp_all [hitE]]; rfl; done) | (exfalso; simp_all; done) | (trace_state; fail))
   ·intro b3
    have c3 := b3
    try simp only [ne_eq, beq_eq_false_iff_ne] at c3
    refine X_skip ?_
    skip
    exact ⟨_, _, W2, rfl, rfl, Lib.hid (by rw [hm.out, show hitE s m = false from by clear hm; simp_all [hitE], Bool.false_or])⟩
  ·intro b4
   have c4 := b4
   try simp only [ne_eq, beq_eq_false_iff_ne] at c4
   refine X_seq ?_
   refine X_rg fun R hR => ?_
   simp only [inr_u8, Int.reduceLE, aops, astep, awant, aeff, aop, abin, aint, ev, ofValue, St.put, zg1, zg0, zgd, zmo, if_true, zs1, zs0, and_self, b4]
   with_reducible refine hR _ ?_
   clear hR R
   show X _ _ _ _
   refine X_ite (by simp only [ev, zg1, zg0, zgd]; exact rfl) ?_ ?_
   ·intro b5
    have c5 := b5
    try simp only [beq_iff_eq] at c5
    refine X_skip ?_
    show X _ _ _ _
    refine X_true (by simp only [ev, zg1, zg0, zgd, beq_self_eq_true, c5]) ?_
    refine X_seq ?_
    refine X_rg fun R hR => ?_
    simp only [EVP, app_get0, aops, astep, awant, aeff, aop, abin, astr, mkD, ev, St.put, ia_str, zg1, zg0, zgd, zmo, if_true, zs1, zs0, zlc, zln, zd1, zd0, zt1, zt0, Nat.reduceAdd, Nat.reduceLeDiff, Nat.zero_add, zft, if_false, reduceCtorEq, beq_self_eq_true, ty_string, ty_api_Node, c5]
    with_reducible refine hR _ ?_
    clear hR R
    show X _ _ _ _
    refine X_ite (by simp only [ev, zg1, zg0, zgd]; exact rfl) ?_ ?_
    ·intro b6
     have c6 := b6
     try simp only [beq_iff_eq] at c6
     refine X_seq ?_
     refine X_rg fun R hR => ?_
     simp only [EVP, aops, astep, awant, aeff, astore, ev, ofValue, St.put, gd_bool, cl_bool, zg1, zg0, zgd, zmo, if_true, zs1, zs0, zlc, zln, zd1, zd0, zt0, zca, zna, Nat.reduceLeDiff, Nat.zero_add, and_self, beq_self_eq_true, ty_bool, c6]
     with_reducible refine hR _ ?_
     clear hR R
     show X _ _ _ _
     refine X_ret ?_
     show resD _ _ _ = some _
     simp only [resD, resAll, resOne, resTup, Try.results69, EVP, mkD, ty_bool, zg1, zg0, zd0, zt1, zt0, zlc, zln, Nat.reduceLeDiff, Nat.zero_add, if_true, zft, if_false, D.isAgg, zmo] <;> (first | (rw [hm.out]; rfl; done) | (rw [hm.out, show hitE s m = true from by clear hm; simp_all [hitE]]; rfl; done) | (exfalso; simp_all; done) | (trace_state; fail))
    ·intro b7
     have c7 := b7
     try simp only [ne_eq, beq_eq_false_iff_ne] at c7
     refine X_skip ?_
     skip
     exact ⟨_, _, W2, rfl, rfl, Lib.hid (by rw [hm.out, show hitE s m = false from by clear hm; simp_all [hitE], Bool.false_or])⟩
   ·intro b8
    have c8 := b8
    try simp only [ne_eq, beq_eq_false_iff_ne] at c8
    refine X_seq ?_
    refine X_rg fun R hR => ?_
    simp only [inr_u8, Int.reduceLE, aops, astep, awant, aeff, aop, abin, aint, ev, ofValue, St.put, zg1, zg0, zgd, zmo, if_true, zs1, zs0, and_self, b8]
    with_reducible refine hR _ ?_
    clear hR R
    show X _ _ _ _
    refine X_ite (by simp only [ev, zg1, zg0, zgd]; exact rfl) ?_ ?_
    ·intro b9
     have c9 := b9
     try simp only [beq_iff_eq] at c9
     refine X_skip ?_
     show X _ _ _ _
     refine X_true (by simp only [ev, zg1, zg0, zgd, beq_self_eq_true, c9]) ?_
     refine X_seq ?_
     refine X_rg fun R hR => ?_
     simp only [EVP, app_get0, aops, astep, awant, aeff, aop, abin, astr, mkD, ev, St.put, ia_str, zg1, zg0, zgd, zmo, if_true, zs1, zs0, zlc, zln, zd1, zd0, zt1, zt0, Nat.reduceAdd, Nat.reduceLeDiff, Nat.zero_add, zft, if_false, reduceCtorEq, beq_self_eq_true, ty_string, ty_api_Node, c9]
     with_reducible refine hR _ ?_
     clear hR R
     show X _ _ _ _
     refine X_ite (by simp only [ev, zg1, zg0, zgd]; exact rfl) ?_ ?_
     ·intro b10
      have c10 := b10
      try simp only [beq_iff_eq] at c10
      refine X_seq ?_
      refine X_rg fun R hR => ?_
      simp only [EVP, aops, astep, awant, aeff, astore, ev, ofValue, St.put, gd_bool, cl_bool, zg1, zg0, zgd, zmo, if_true, zs1, zs0, zlc, zln, zd1, zd0, zt0, zca, zna, Nat.reduceLeDiff, Nat.zero_add, and_self, beq_self_eq_true, ty_bool, c10]
      with_reducible refine hR _ ?_
      clear hR R
      show X _ _ _ _
      refine X_ret ?_
      show resD _ _ _ = some _
      simp only [resD, resAll, resOne, resTup, Try.results69, EVP, mkD, ty_bool, zg1, zg0, zd0, zt1, zt0, zlc, zln, Nat.reduceLeDiff, Nat.zero_add, if_true, zft, if_false, D.isAgg, zmo] <;> (first | (rw [hm.out]; rfl; done) | (rw [hm.out, show hitE s m = true from by clear hm; simp_all [hitE]]; rfl; done) | (exfalso; simp_all; done) | (trace_state; fail))
     ·intro b11
      have c11 := b11
      try simp only [ne_eq, beq_eq_false_iff_ne] at c11
      refine X_skip ?_
      skip
      exact ⟨_, _, W2, rfl, rfl, Lib.hid (by rw [hm.out, show hitE s m = false from by clear hm; simp_all [hitE], Bool.false_or])⟩
    ·intro b12
     have c12 := b12
     try simp only [ne_eq, beq_eq_false_iff_ne] at c12
     refine X_rg fun R hR => ?_
     simp only [inr_u8, Int.reduceLE, aops, astep, awant, aeff, aop, abin, aint, ev, ofValue, St.put, zg1, zg0, zgd, zmo, if_true, zs1, zs0, and_self, b12]
     with_reducible refine hR _ ?_
     clear hR R
     show X _ _ _ _
     refine X_ite (by simp only [ev, zg1, zg0, zgd]; exact rfl) ?_ ?_
     ·intro b13
      have c13 := b13
      try simp only [beq_iff_eq] at c13
      refine X_seq ?_
      refine X_rg fun R hR => ?_
      simp only [EVP, app_get0, aops, astep, awant, aeff, aop, abin, astr, mkD, ev, St.put, ia_str, zg1, zg0, zgd, zmo, if_true, zs1, zs0, zlc, zln, zd1, zd0, zt1, zt0, Nat.reduceAdd, Nat.reduceLeDiff, Nat.zero_add, zft, if_false, reduceCtorEq, beq_self_eq_true, ty_string, ty_api_Node, c13]
      with_reducible refine hR _ ?_
      clear hR R
      show X _ _ _ _
      refine X_ite (by simp only [ev, zg1, zg0, zgd]; exact rfl) ?_ ?_
      ·intro b14
       have c14 := b14
       try simp only [beq_iff_eq] at c14
       refine X_seq ?_
       refine X_rg fun R hR => ?_
       simp only [EVP, aops, astep, awant, aeff, astore, ev, ofValue, St.put, gd_bool, cl_bool, zg1, zg0, zgd, zmo, if_true, zs1, zs0, zlc, zln, zd1, zd0, zt0, zca, zna, Nat.reduceLeDiff, Nat.zero_add, and_self, beq_self_eq_true, ty_bool, c14]
       with_reducible refine hR _ ?_
       clear hR R
       show X _ _ _ _
       refine X_ret ?_
       show resD _ _ _ = some _
       simp only [resD, resAll, resOne, resTup, Try.results69, EVP, mkD, ty_bool, zg1, zg0, zd0, zt1, zt0, zlc, zln, Nat.reduceLeDiff, Nat.zero_add, if_true, zft, if_false, D.isAgg, zmo] <;> (first | (rw [hm.out]; rfl; done) | (rw [hm.out, show hitE s m = true from by clear hm; simp_all [hitE]]; rfl; done) | (exfalso; simp_all; done) | (trace_state; fail))
      ·intro b15
       have c15 := b15
       try simp only [ne_eq, beq_eq_false_iff_ne] at c15
       refine X_skip ?_
       skip
       exact ⟨_, _, W2, rfl, rfl, Lib.hid (by rw [hm.out, show hitE s m = false from by clear hm; simp_all [hitE], Bool.false_or])⟩
     ·intro b16
      have c16 := b16
      try simp only [ne_eq, beq_eq_false_iff_ne] at c16
      refine X_skip ?_
      skip
      exact ⟨_, _, W2, rfl, rfl, Lib.hid (by rw [hm.out, show hitE s m = false from by clear hm; simp_all [hitE], Bool.false_or])⟩
theorem kidN_eq {t : Tr} {i : Nat} (h : i < t.kids.length) : kidN t i = t.kids[i] := by unfold kidN; rw [List.getElem?_eq_getElem h]; rfl
theorem kidN_size {t : Tr} {i : Nat} (h : t.size ≤ 1000000) : (kidN t i).size ≤ 1000000 := by
 by_cases q : i < t.kids.length
 ·rw [kidN_eq q]; have := Tr.kid_size (List.getElem_mem q); omega
 ·unfold kidN; rw [List.getElem?_eq_none (by omega)]; simp [noT, Tr.size, Tr.sizes]
theorem kid_n {t : Tr} {i : Nat} (h : i < t.kids.length) : ((if (t.kids.map dN).isEmpty = true then 0 else 4) = 4) = True := eq_true (sl_n (j := i) (by simpa using h))
theorem kid_e {t : Tr} {i : Nat} (h : i < t.kids.length) : (t.kids.map dN)[i]? = some (dN (kidN t i)) := by rw [kidN_eq h]; simp [h]
/-- an item has an index -/
def itemOk (t : Tr) : Prop := t.kind = 3 → 0 < t.kids.length
set_option maxRecDepth 100000 in
set_option maxHeartbeats 4000000 in
theorem idx_fn (s : ByteArray) (t : Tr) (hs : t.size ≤ 1000000) (hi : itemOk t) : fn EV 68 [dN t, .str s] = some (.bool (idxE t s)) := by
 refine fn_X rfl Try.func68 rfl (by simp only [plain, List.all_cons, List.all_nil, dN_pl, str_pl, Bool.and_true]) (rfl) (rfl) (rfl) ?_
 simp only [zmc, zmn, D.strip, dN_strip]
 simp only [enterSt, Try.ntmps68, zlc, zln, Nat.reduceAdd, Nat.reduceSub, zr1, zr0, zca, zna]
 refine X_seq ?_
 refine X_rg fun R hR => ?_
 simp only [aops, astep, awant, aeff, aop, ev, ofValue, St.put, zg0, zgd, zmo, if_true, zs1, zs0, zln, zna, dN_cells, dN_good, sl]
 with_reducible refine hR _ ?_
 clear hR R
 show X _ _ _ _
 refine X_seq ?_
 have hn1 := fun h : t.kind = 3 => kid_n (hi h)
 have he1 := fun h : t.kind = 3 => kid_e (hi h)
 have hl1 : t.kind = 3 → ((0 : Int) < (t.kids.length : Int)) = True := fun h => eq_true (by have := hi h; omega)
 have hm := ment_fn s (kidN t 0) (kidN_size hs)
 refine X_y ?_
 refine Y_k 4 fun R hR => ?_
 simp only [EVP, inr_u8, Int.reduceLE, aops, astep, awant, aeff, aop, abin, aint, mkD, ev, ofValue, St.put, ia_int, zg1, zg0, zgd, zmo, if_true, zs1, zs0, zlc, zln, zd0, zt1, zt0, Nat.reduceAdd, Nat.reduceLeDiff, Nat.zero_add, Nat.add_zero, zft, if_false, and_self, reduceCtorEq, ty_uint8, ty_api_Node]
 with_reducible refine hR _ ?_
 clear hR R
 simp only [zd1, zd0]
 refine Y_if 8 (by simp only [ev, zg1, zg0, zgd]; exact rfl) ?_ ?_
 ·intro b1
  have c1 := b1
  try simp only [beq_iff_eq] at c1
  refine Y_end fun R hR => ?_
  simp only [EVP, inr_i64, Int.reduceLE, Int.reduceNeg, aops, astep, awant, aeff, aop, mkD, ev, ofValue, St.put, pcall, ia_slice, zmc, zmn, zg1, zg0, zgd, zmo, zbs, if_true, zs1, zs0, zlm, zlc, zln, zd1, zd0, zt1, zt0, zca, zna, Nat.reduceAdd, Nat.reduceLeDiff, Nat.zero_add, zft, if_false, and_self, reduceCtorEq, beq_self_eq_true, zis, ty_s_api_Node, ty_api_Node, und_api_Node, siz_api_Node, inf_api_Node_eq, any69, dN_cells, dN_isAgg, sl, c1, hn1, he1, hl1, hm, Int.toNat_zero]
  with_reducible refine hR _ ?_
  clear hR R
  show X _ _ _ _
  refine X_ret ?_
  show resD _ _ _ = some _
  simp only [resD, resAll, resOne, resTup, Try.results68, EVP, zg1, zg0, D.good, if_true, zmo] <;> (first | (simp_all [idxE]; done) | (exfalso; simp_all; done) | (trace_state; fail))
 ·intro b2
  have c2 := b2
  try simp only [ne_eq, beq_eq_false_iff_ne] at c2
  refine Y_end fun R hR => ?_
  simp only [EVP, aops, astep, awant, aeff, aop, ev, ofValue, St.put, pcall, zmc, zmn, zg1, zg0, zgd, zmo, Option.map_none, zbs, if_true, zs1, zs0, zca, zna, Nat.zero_add, zft, if_false, reduceCtorEq, bq_ft, ty_s_api_Node, ty_api_Node, und_api_Node, any69, b2]
  with_reducible refine hR _ ?_
  clear hR R
  show X _ _ _ _
  refine X_ret ?_
  show resD _ _ _ = some _
  simp only [resD, resAll, resOne, resTup, Try.results68, EVP, zg1, zg0, D.good, if_true, zmo] <;> (first | (simp_all [idxE]; done) | (exfalso; simp_all; done) | (trace_state; fail))
set_option maxRecDepth 100000 in
set_option maxHeartbeats 4000000 in
theorem alias_fn (c : List Tr) (nm : List ByteArray) (hc : ∀ x ∈ c, x.size ≤ 1000000 ∧ itemOk x) (hl : c.length ≤ 1000000) (hm : nm.length ≤ 1000000) : fn EV 70 [sl 4 (c.map dN), sl 1 (nm.map dS)] = some (.tup [.str (nmE (al2 c nm)).1, .int .i64 (nmE (al2 c nm)).2]) := by
 refine fn_X rfl Try.func70 rfl (by simp only [plain, List.all_cons, List.all_nil, sl_pl (f := dN) dN_under, sl_pl (f := dS) (fun _ _ => rfl), Bool.and_true]) (rfl) (rfl) (rfl) ?_
 simp only [zmc, zmn, sl_strip (map_strip (f := dN) dN_strip _), sl_strip (map_strip (f := dS) (fun _ => rfl) _)]
 simp only [enterSt, Try.ntmps70, zlc, zln, Nat.reduceAdd, Nat.reduceSub, zr1, zr0, zca, zna]
 refine X_seq ?_
 refine X_rg fun R hR => ?_
 simp only [inr_i64, Int.reduceLE, Int.reduceNeg, aops, astep, awant, aeff, aop, ev, ofValue, St.put, zgd, zmo, if_true, zs1, zs0, and_self, sl, sl]
 with_reducible refine hR _ ?_
 clear hR R
 show X _ _ _ _
 refine X_seq ?_
 refine X_seq ?_
 refine X_rg fun R hR => ?_
 simp only [EVP, inr_i64, Int.reduceLE, Int.reduceNeg, aops, astep, awant, aeff, aop, ev, ofValue, St.put, zg1, zg0, zgd, zmo, if_true, zs1, zs0, zlm, and_self, und_api_Node]
 with_reducible refine hR _ ?_
 clear hR R
 show X _ _ _ _
 refine X_block ?_
 refine X_loop (fun m σ => ∃ (i : Nat) (r : List (List D)), σ = ⟨[.slice .imm (if (c.map dN).isEmpty = true then 0 else 4) (c.map dN), .slice .imm (if (nm.map dS).isEmpty = true then 0 else 1) (nm.map dS), slotOf σ 2, slotOf σ 3, slotOf σ 4, slotOf σ 5, slotOf σ 6, slotOf σ 7, slotOf σ 8, slotOf σ 9, .slice .imm (if (c.map dN).isEmpty = true then 0 else 4) (c.map dN), .int .i64 c.length, .int .i64 i, slotOf σ 13, slotOf σ 14, slotOf σ 15, slotOf σ 16, slotOf σ 17, slotOf σ 18, slotOf σ 19, slotOf σ 20, slotOf σ 21, slotOf σ 22, slotOf σ 23, slotOf σ 24, slotOf σ 25, slotOf σ 26, slotOf σ 27], r, 0, []⟩ ∧ m = c.length - i ∧ i ≤ c.length ∧ Hid (al2 c nm = al2 (c.drop i) nm)) ?_ (c.length) _ ?_
 rotate_left
 ·exact ⟨0, [], rfl, rfl, Nat.zero_le _, Lib.hid rfl⟩
 rintro m σ ⟨i, r, hσ, rfl, hi, hf⟩
 generalize slotOf σ = x at hσ
 subst hσ
 refine X_seq ?_
 refine X_rg fun R hR => ?_
 simp only [nat_lt, aops, astep, awant, aeff, aop, abin, aint, ev, St.put, zg1, zg0, zgd, zmo, if_true, zs1, zs0]
 with_reducible refine hR _ ?_
 clear hR R
 show X _ _ _ _
 refine X_seq ?_
 refine X_ite (by simp only [ev, zg1, zg0, zgd]; exact rfl) ?_ ?_
 ·intro b1
  have c1 := b1
  try simp only [decide_eq_true_eq] at c1
  refine X_skip ?_
  show X _ _ _ _
  refine X_seq ?_
  refine X_block ?_
  refine X_seq ?_
  have hlt : i < c.length := by first | assumption | omega
  have hn1 : ((if (c.map dN).isEmpty = true then 0 else 4) = 4) = True := eq_true (sl_n (j := i) (by simpa using hlt))
  have e1 : (c.map dN)[i]? = some (dN c[i]) := by simp [hlt]
  refine X_rg fun R hR => ?_
  simp only [EVP, app_get0, app_set0, nat_lt, nat_0, nat_to, aops, astep, awant, aeff, aop, astore, ev, St.put, zg1, zg0, zgd, zmo, zbs, if_true, zs1, zs0, zlm, zlc, zln, zd1, zd0, zt0, zca, zna, Nat.reduceAdd, Nat.reduceLeDiff, Nat.zero_add, and_self, decide_true, zis, ty_api_Node, und_api_Node, siz_api_Node, inf_api_Node_eq, sl, dN_cells, dN_isAgg, dN_good, sl, c1, hn1, e1]
  with_reducible refine hR _ ?_
  clear hR R
  show X _ _ _ _
  refine X_seq ?_
  refine X_rg fun R hR => ?_
  simp only [EVP, inr_i64, Int.reduceLE, Int.reduceNeg, aops, astep, awant, aeff, aop, ev, ofValue, St.put, zg1, zg0, zgd, zmo, if_true, zs1, zs0, zlm, and_self, und_string]
  with_reducible refine hR _ ?_
  clear hR R
  show X _ _ _ _
  refine X_block ?_
  refine X_loop (fun m σ => ∃ (j : Nat) (x9 : D), σ = ⟨[.slice .imm (if (c.map dN).isEmpty = true then 0 else 4) (c.map dN), .slice .imm (if (nm.map dS).isEmpty = true then 0 else 1) (nm.map dS), slotOf σ 2, slotOf σ 3, slotOf σ 4, slotOf σ 5, slotOf σ 6, .ptr r.length 0, slotOf σ 8, x9, .slice .imm (if (c.map dN).isEmpty = true then 0 else 4) (c.map dN), .int .i64 c.length, .int .i64 i, slotOf σ 13, slotOf σ 14, slotOf σ 15, .slice .imm (if (nm.map dS).isEmpty = true then 0 else 1) (nm.map dS), .int .i64 nm.length, .int .i64 j, slotOf σ 19, slotOf σ 20, slotOf σ 21, slotOf σ 22, slotOf σ 23, slotOf σ 24, slotOf σ 25, slotOf σ 26, slotOf σ 27], r ++ [[.int .u8 c[i].kind, .int .i64 c[i].num, .str c[i].name, .slice .imm (if (c[i].kids.map dN).isEmpty = true then 0 else 4) (c[i].kids.map dN)]], 0, []⟩ ∧ m = nm.length - j ∧ j ≤ nm.length ∧ Hid (al1 c[i] nm = al1 c[i] (nm.drop j))) ?_ (nm.length) _ ?_
  rotate_left
  ·exact ⟨0, _, rfl, rfl, Nat.zero_le _, Lib.hid rfl⟩
  rintro m σ ⟨j, x9, hσ, rfl, hj, hg⟩
  generalize slotOf σ = x at hσ
  subst hσ
  refine X_seq ?_
  refine X_rg fun R hR => ?_
  simp only [nat_lt, aops, astep, awant, aeff, aop, abin, aint, ev, St.put, zg1, zg0, zgd, zmo, if_true, zs1, zs0]
  with_reducible refine hR _ ?_
  clear hR R
  show X _ _ _ _
  refine X_seq ?_
  refine X_ite (by simp only [ev, zg1, zg0, zgd]; exact rfl) ?_ ?_
  ·intro b2
   have c2 := b2
   try simp only [decide_eq_true_eq] at c2
   refine X_skip ?_
   show X _ _ _ _
   refine X_seq ?_
   refine X_block ?_
   refine X_seq ?_
   have hlj : j < nm.length := by first | assumption | omega
   have hn2 : ((if (nm.map dS).isEmpty = true then 0 else 1) = 1) = True := eq_true (sl_n (j := j) (by simpa using hlj))
   have e2 : (nm.map dS)[j]? = some (.str nm[j]) := by simp [hlj, dS]
   refine X_rg fun R hR => ?_
   simp only [EVP, nat_lt, nat_0, nat_to, aops, astep, awant, aeff, aop, ev, St.put, ia_str, cl_str, zg1, zg0, zgd, zmo, if_true, zs1, zs0, zlm, zlc, zln, Nat.zero_add, and_self, decide_true, zis, ty_string, und_string, siz_string, inf_string_eq, c2, hn2, e2]
   with_reducible refine hR _ ?_
   clear hR R
   show X _ _ _ _
   refine X_seq ?_
   have hx := idx_fn nm[j] c[i] (hc _ (List.getElem_mem hlt)).1 (hc _ (List.getElem_mem hlt)).2
   refine X_rg fun R hR => ?_
   simp only [EVP, app_get0, aops, astep, awant, aeff, aop, mkD, ev, St.put, pcall, zmc, zmn, zg1, zg0, zgd, zmo, if_true, zs1, zs0, zlc, zln, zd0, zt1, zt0, zca, zna, Nat.reduceAdd, Nat.reduceLeDiff, Nat.zero_add, ty_api_Node, any68, dN_agg, hx]
   with_reducible refine hR _ ?_
   clear hR R
   show X _ _ _ _
   refine X_ite (by simp only [ev, zg1, zg0, zgd]; exact rfl) ?_ ?_
   ·intro b3
    have c3 := b3
    try simp only [znt, znf, decide_eq_true_eq, decide_eq_false_iff_not, beq_iff_eq, Int.not_lt, Int.not_le, ge_iff_le, gt_iff_lt, bne_iff_ne, ne_eq, bne_eq_false_iff_eq, beq_eq_false_iff_ne, zat, zof] at c3
    refine X_seq ?_
    refine X_rg fun R hR => ?_
    simp only [inr_i64, Int.reduceLE, Int.reduceNeg, aops, astep, awant, aeff, aop, ev, ofValue, St.put, zg1, zg0, zgd, zmo, if_true, zs1, zs0, and_self, b3]
    with_reducible refine hR _ ?_
    clear hR R
    show X _ _ _ _
    refine X_ret ?_
    show resD _ _ _ = some _
    simp only [resD, resAll, resOne, resTup, Try.results70, EVP, zg1, zg0, D.good, if_true, zmo] <;> (first | (rw [hf.out, al2_y hlt (hg.out.trans (al1_y hlj (by assumption)))]; rfl; done) | (rw [hf.out, al2_e (by omega)]; rfl; done) | (exfalso; simp_all; done) | (trace_state; fail))
   ·intro b4
    have c4 := b4
    try simp only [znt, znf, decide_eq_true_eq, decide_eq_false_iff_not, beq_iff_eq, Int.not_lt, Int.not_le, ge_iff_le, gt_iff_lt, bne_iff_ne, ne_eq, bne_eq_false_iff_eq, beq_eq_false_iff_ne, zat, zof] at c4
    refine X_skip ?_
    show X _ _ _ _
    have hbj : j < 9223372036854775807 := by omega
    refine X_rg fun R hR => ?_
    simp only [inr_i64, Int.reduceLE, Int.reduceNeg, aops, astep, awant, aeff, aop, abin, aint, ev, ofValue, St.put, zg1, zg0, zgd, zmo, if_true, zs1, zs0, and_self, b4, nat_succ hbj]
    with_reducible refine hR _ ?_
    clear hR R
    show ∃ m, m < _ ∧ _
    exact ⟨nm.length - (j + 1), by omega, j + 1, _, rfl, rfl, by omega, Lib.hid (hg.out.trans (al1_n hlj (by first | assumption | simp_all)))⟩
  ·intro b5
   have c5 := b5
   try simp only [decide_eq_false_iff_not] at c5
   refine X_exit ?_
   show X _ _ _ _
   have hbig : i < 9223372036854775807 := by omega
   refine X_rg fun R hR => ?_
   simp only [inr_i64, Int.reduceLE, Int.reduceNeg, aops, astep, awant, aeff, aop, abin, aint, ev, ofValue, St.put, zg1, zg0, zgd, zmo, if_true, zs1, zs0, and_self, decide_false, c5, nat_succ hbig]
   with_reducible refine hR _ ?_
   clear hR R
   show ∃ m, m < _ ∧ _
   exact ⟨c.length - (i + 1), by omega, i + 1, _, rfl, rfl, by omega, Lib.hid (hf.out.trans (al2_n hlt (by rw [hg.out]; exact al1_e (by omega))))⟩
 ·intro b6
  have c6 := b6
  try simp only [decide_eq_false_iff_not] at c6
  refine X_exit ?_
  show X _ _ _ _
  refine X_seq ?_
  refine X_rg fun R hR => ?_
  simp only [inr_i64, Int.reduceLE, Int.reduceNeg, aops, astep, awant, aeff, aop, ev, ofValue, St.put, zgd, zmo, if_true, zs1, zs0, and_self, decide_false, c6]
  with_reducible refine hR _ ?_
  clear hR R
  show X _ _ _ _
  refine X_ret ?_
  show resD _ _ _ = some _
  simp only [resD, resAll, resOne, Try.results70, EVP, zg1, zg0, D.good, if_true] <;> (first | (rw [hf.out, al2_y hlt (hg.out.trans (al1_y hlj (by assumption)))]; rfl; done) | (rw [hf.out, al2_e (by omega)]; rfl; done) | (exfalso; simp_all; done) | (trace_state; fail))
set_option maxRecDepth 100000 in
set_option maxHeartbeats 4000000 in
theorem cst_fn (t : Tr) (hs : t.size ≤ 1000000) : fn EV 73 [dN t] = some (.bool (constT t).2) := by
 refine fn_X rfl Try.func73 rfl (by simp only [plain, List.all_cons, List.all_nil, dN_pl, Bool.and_true]) (rfl) (rfl) (rfl) ?_
 simp only [zmc, zmn, dN_strip]
 simp only [enterSt, Try.ntmps73, zlc, zln, Nat.reduceAdd, Nat.reduceSub, zr1, zr0, zca, zna]
 refine X_seq ?_
 refine X_rg fun R hR => ?_
 simp only [aops, astep, awant, aeff, aop, ev, ofValue, St.put, zg0, zgd, zmo, if_true, zs1, zs0, zln, zna, dN_cells, dN_good, sl]
 with_reducible refine hR _ ?_
 clear hR R
 show X _ _ _ _
 refine X_seq ?_
 have hc := const_fn t hs
 refine X_rg fun R hR => ?_
 simp only [EVP, aops, astep, awant, aeff, aop, mkD, ev, St.put, pcall, zmc, zmn, zg1, zg0, zgd, zmo, if_true, zs1, zs0, zlc, zln, zd0, zt1, zt0, zca, zna, Nat.reduceAdd, Nat.reduceLeDiff, Nat.zero_add, ty_api_Node, any67, dN_agg, hc]
 with_reducible refine hR _ ?_
 clear hR R
 show X _ _ _ _
 refine X_seq ?_
 refine X_rg fun R hR => ?_
 simp only [aops, astep, awant, aeff, aop, ev, St.put, zg1, zg0, zgd, zmo, if_true, zs1, zs0]
 with_reducible refine hR _ ?_
 clear hR R
 show X _ _ _ _
 refine X_ret ?_
 show resD _ _ _ = some _
 simp only [resD, resAll, resOne, resTup, Try.results73, EVP, zg1, zg0, D.good, if_true, zmo] <;> (first | (rfl; done) | (exfalso; simp_all; done) | (trace_state; fail))
def nixN (l : List Tr) (s : ByteArray) : Nat → Nat → Int
 | _, 0 => -1
 | i, k + 1 => match l[i]? with
  | some q => if q.name.toList == s.toList then (i : Int) else nixN l s (i + 1) k
  | none => -1
theorem nixN_y {l : List Tr} {s : ByteArray} {i : Nat} (h : i < l.length) (h' : (l[i].name.toList == s.toList) = true) : nixN l s i (l.length - i) = i := by
 obtain ⟨k, hk⟩ : ∃ k, l.length - i = k + 1 := ⟨l.length - i - 1, by omega⟩
 rw [hk]; simp only [nixN, List.getElem?_eq_getElem h, h', if_true]
theorem nixN_n {l : List Tr} {s : ByteArray} {i : Nat} (h : i < l.length) (h' : (l[i].name.toList == s.toList) = false) : nixN l s i (l.length - i) = nixN l s (i + 1) (l.length - (i + 1)) := by
 obtain ⟨k, hk⟩ : ∃ k, l.length - i = k + 1 := ⟨l.length - i - 1, by omega⟩
 rw [hk, show l.length - (i + 1) = k from by omega]; simp only [nixN, List.getElem?_eq_getElem h, h', zft, if_false]
theorem nix_has (l : List Tr) (s : ByteArray) : ∀ (n i : Nat), i + n = l.length → decide (0 ≤ nixN l s i n) = hasN (l.drop i) s
 | 0, i, h => by rw [List.drop_of_length_le (by omega)]; simp [nixN, hasN]
 | n + 1, i, h => by
  have hi : i < l.length := by omega
  rw [List.drop_eq_getElem_cons hi]
  simp only [nixN, List.getElem?_eq_getElem hi, hasN, List.any_cons]
  cases q : (l[i].name.toList == s.toList) with
  | true => simp
  | false =>
   have := nix_has l s n (i + 1) (by omega)
   simpa [hasN] using this
set_option maxRecDepth 100000 in
set_option maxHeartbeats 4000000 in
theorem rej1_cal (m y : Tr) (b : Nat) (fr : List D) (B : List (List D)) (nx : Nat) (lv : List Nat) (hb : B[b]? = some [.int .u8 y.kind, .int .i64 y.num, .str y.name, .slice .imm (if (y.kids.map dN).isEmpty = true then 0 else 4) (y.kids.map dN)]) (hfr : Free B) : cal EV 72 [dN m, .ptr b 0] ⟨fr, B, nx, lv⟩ = some (.bool (m.name.toList == y.name.toList), ⟨fr, B, nx, lv⟩) := by
 have hb2 : ∀ c, (B ++ [c])[b]? = some [.int .u8 y.kind, .int .i64 y.num, .str y.name, .slice .imm (if (y.kids.map dN).isEmpty = true then 0 else 4) (y.kids.map dN)] := fun c => by rw [List.getElem?_append_left (List.getElem?_eq_some_iff.1 hb).1]; exact hb
 refine cal_X (σ := ⟨fr, B, nx, lv⟩) rfl Try.func72 rfl (by simp [plain, D.under, dN_under]) rfl (hfr.all _) ?_
 simp only [enterSt, Try.ntmps72, zlc, zln, Nat.reduceAdd, Nat.reduceSub, zr1, zr0, zca, zna]
 refine X_seq ?_
 refine X_rc fun R hR => ?_
 simp only [aops, astep, awant, aeff, aop, ev, ofValue, St.put, zg0, zgd, zmo, if_true, zs1, zs0, dN_cells, dN_good, sl]
 with_reducible refine hR _ ?_
 clear hR R
 show X _ _ _ _
 refine X_seq ?_
 refine X_rc fun R hR => ?_
 simp only [EVP, app_get0, aops, astep, awant, aeff, aop, abin, astr, mkD, ev, St.put, ia_str, zg1, zg0, zgd, zmo, if_true, zs1, zs0, zlc, zln, zd1, zd0, zt1, zt0, Nat.reduceAdd, Nat.reduceLeDiff, Nat.zero_add, zft, if_false, reduceCtorEq, ty_string, ty_api_Node, hb2]
 with_reducible refine hR _ ?_
 clear hR R
 show X _ _ _ _
 refine X_ret ?_
 show _ ∧ _
 refine ⟨.inr rfl, ?_, by simp, by simp, rfl, rfl⟩
 simp only [resD, resAll, resOne, resTup, Try.results72, EVP, zg1, zg0, D.good, if_true, zmo] <;> rfl
set_option maxRecDepth 100000 in
set_option maxHeartbeats 4000000 in
theorem idxf_cal (l : List Tr) (y : Tr) (n4 : Nat) (h4 : 0 < l.length → n4 = 4) (b : Nat) (fr : List D) (B : List (List D)) (nx : Nat) (lv : List Nat) (hll : l.length ≤ 1000000) (hb : B[b]? = some [.int .u8 y.kind, .int .i64 y.num, .str y.name, .slice .imm (if (y.kids.map dN).isEmpty = true then 0 else 4) (y.kids.map dN)]) (hfr : Free B) : cal EV 85 [.slice .imm n4 (l.map dN), .fn 72 [.ptr b 0]] ⟨fr, B, nx, lv⟩ = some (.int .i64 (nixN l y.name 0 l.length), ⟨fr, B, nx, lv⟩) := by
 refine cal_X (σ := ⟨fr, B, nx, lv⟩) rfl Try.func85 rfl (by simp [plain, D.under, D.unders, unders_id (f := dN) dN_under]) rfl (hfr.all _) ?_
 simp only [enterSt, Try.ntmps85, zlc, zln, Nat.reduceAdd, Nat.reduceSub, zr1, zr0, zca, zna]
 refine X_seq ?_
 refine X_rc fun R hR => ?_
 simp only [inr_i64, Int.reduceLE, Int.reduceNeg, aops, astep, awant, aeff, aop, ev, ofValue, St.put, zgd, zmo, if_true, zs1, zs0, and_self]
 with_reducible refine hR _ ?_
 clear hR R
 show X _ _ _ _
 refine X_seq ?_
 refine X_seq ?_
 refine X_rc fun R hR => ?_
 simp only [EVP, inr_i64, Int.reduceLE, Int.reduceNeg, aops, astep, awant, aeff, aop, ev, ofValue, St.put, zg1, zg0, zgd, zmo, if_true, zs1, zs0, zlm, and_self, und_api_Node]
 with_reducible refine hR _ ?_
 clear hR R
 show X _ _ _ _
 refine X_block ?_
 refine X_loop (fun m σ => ∃ (i : Nat), σ = ⟨[.slice .imm n4 (l.map dN), .fn 72 [.ptr b 0], slotOf σ 2, slotOf σ 3, slotOf σ 4, slotOf σ 5, .slice .imm n4 (l.map dN), .int .i64 l.length, .int .i64 i, slotOf σ 9, slotOf σ 10, slotOf σ 11, slotOf σ 12, slotOf σ 13, slotOf σ 14, slotOf σ 15, slotOf σ 16, slotOf σ 17, slotOf σ 18], B, nx, lv⟩ ∧ m = l.length - i ∧ i ≤ l.length ∧ Hid (nixN l y.name 0 l.length = nixN l y.name i (l.length - i))) ?_ (l.length) _ ?_
 rotate_left
 ·exact ⟨0, rfl, rfl, Nat.zero_le _, Lib.hid rfl⟩
 rintro m σ ⟨i, hσ, rfl, hi, hf⟩
 generalize slotOf σ = x at hσ
 subst hσ
 refine X_seq ?_
 refine X_rc fun R hR => ?_
 simp only [nat_lt, aops, astep, awant, aeff, aop, abin, aint, ev, St.put, zg1, zg0, zgd, zmo, if_true, zs1, zs0]
 with_reducible refine hR _ ?_
 clear hR R
 show X _ _ _ _
 refine X_seq ?_
 refine X_ite (by simp only [ev, zg1, zg0, zgd]; exact rfl) ?_ ?_
 ·intro b1
  have c1 := b1
  try simp only [decide_eq_true_eq] at c1
  refine X_skip ?_
  show X _ _ _ _
  refine X_seq ?_
  refine X_block ?_
  refine X_seq ?_
  have hlt : i < l.length := by first | assumption | omega
  refine X_rc fun R hR => ?_
  simp only [aops, astep, awant, aeff, aop, ev, St.put, zg1, zg0, zgd, zmo, if_true, zs1, zs0, decide_true, c1]
  with_reducible refine hR _ ?_
  clear hR R
  show X _ _ _ _
  refine X_seq ?_
  have hn1 : (n4 = 4) = True := eq_true (h4 (by omega))
  have e1 : (l.map dN)[i]? = some (dN l[i]) := by simp [hlt]
  have hc := fun fr => rej1_cal l[i] y b fr B nx lv hb hfr
  refine X_rc fun R hR => ?_
  simp only [EVP, nat_lt, nat_0, nat_to, aops, astep, awant, aeff, aop, ev, St.put, zmc, zmn, zg1, zg0, zgd, zmo, if_true, zs1, zs0, zlm, zlc, zln, zca, zna, Nat.reduceAdd, Nat.zero_add, and_self, zis, ty_api_Node, und_api_Node, siz_api_Node, inf_api_Node_eq, dN_cells, dN_isAgg, sl, any72, c1, hn1, e1, hc]
  with_reducible refine hR _ ?_
  clear hR R
  show X _ _ _ _
  refine X_ite (by simp only [ev, zg1, zg0, zgd]; exact rfl) ?_ ?_
  ·intro b2
   have c2 := b2
   try simp only [beq_iff_eq] at c2
   refine X_seq ?_
   refine X_rc fun R hR => ?_
   simp only [aops, astep, awant, aeff, aop, ev, St.put, zg1, zg0, zgd, zmo, if_true, zs1, zs0, beq_self_eq_true, c2]
   with_reducible refine hR _ ?_
   clear hR R
   show X _ _ _ _
   refine X_ret ?_
   show _ ∧ _
   refine ⟨.inr rfl, ?_, by simp, by simp, rfl, rfl⟩
   simp only [resD, resAll, resOne, resTup, Try.results85, EVP, zg1, zg0, D.good, if_true, zmo] <;> (first | (rw [hf.out, nixN_y hlt (by assumption)]; done) | (rw [hf.out, show l.length - i = 0 from by omega]; rfl; done) | (exfalso; simp_all; done) | (trace_state; fail))
  ·intro b3
   have c3 := b3
   try simp only [ne_eq, beq_eq_false_iff_ne] at c3
   refine X_skip ?_
   show X _ _ _ _
   have hbig : i < 9223372036854775807 := by omega
   refine X_rc fun R hR => ?_
   simp only [inr_i64, Int.reduceLE, Int.reduceNeg, aops, astep, awant, aeff, aop, abin, aint, ev, ofValue, St.put, zg1, zg0, zgd, zmo, if_true, zs1, zs0, and_self, b3, nat_succ hbig]
   with_reducible refine hR _ ?_
   clear hR R
   show ∃ m, m < _ ∧ _
   exact ⟨l.length - (i + 1), by omega, i + 1, rfl, rfl, by omega, Lib.hid (hf.out.trans (nixN_n hlt (by first | assumption | simp_all)))⟩
 ·intro b4
  have c4 := b4
  try simp only [decide_eq_false_iff_not] at c4
  refine X_exit ?_
  show X _ _ _ _
  refine X_seq ?_
  refine X_rc fun R hR => ?_
  simp only [inr_i64, Int.reduceLE, Int.reduceNeg, aops, astep, awant, aeff, aop, ev, ofValue, St.put, zgd, zmo, if_true, zs1, zs0, and_self, decide_false, c4]
  with_reducible refine hR _ ?_
  clear hR R
  show X _ _ _ _
  refine X_ret ?_
  show _ ∧ _
  refine ⟨.inr rfl, ?_, by simp, by simp, rfl, rfl⟩
  simp only [resD, resAll, resOne, resTup, Try.results85, EVP, zg1, zg0, D.good, if_true, zmo] <;> (first | (rw [hf.out, nixN_y hlt (by assumption)]; done) | (rw [hf.out, show l.length - i = 0 from by omega]; rfl; done) | (exfalso; simp_all; done) | (trace_state; fail))
set_option maxRecDepth 100000 in
set_option maxHeartbeats 4000000 in
theorem cont_cal (l : List Tr) (y : Tr) (n4 : Nat) (h4 : 0 < l.length → n4 = 4) (b : Nat) (fr : List D) (B : List (List D)) (nx : Nat) (lv : List Nat) (hll : l.length ≤ 1000000) (hb : B[b]? = some [.int .u8 y.kind, .int .i64 y.num, .str y.name, .slice .imm (if (y.kids.map dN).isEmpty = true then 0 else 4) (y.kids.map dN)]) (hfr : Free B) : cal EV 71 [.slice .imm n4 (l.map dN), .fn 72 [.ptr b 0]] ⟨fr, B, nx, lv⟩ = some (.bool (hasN l y.name), ⟨fr, B, nx, lv⟩) := by
 refine cal_X (σ := ⟨fr, B, nx, lv⟩) rfl Try.func71 rfl (by simp [plain, D.under, D.unders, unders_id (f := dN) dN_under]) rfl (hfr.all _) ?_
 simp only [enterSt, Try.ntmps71, zlc, zln, Nat.reduceAdd, Nat.reduceSub, zr1, zr0, zca, zna]
 refine X_seq ?_
 refine X_rc fun R hR => ?_
 simp only [aops, astep, awant, aeff, aop, ev, ofValue, St.put, zgd, zmo, if_true, zs1, zs0]
 with_reducible refine hR _ ?_
 clear hR R
 show X _ _ _ _
 refine X_seq ?_
 have hI := fun fr => idxf_cal l y n4 h4 b fr B nx lv hll hb hfr
 have hN := nix_has l y.name l.length 0 (by omega)
 rw [zd0] at hN
 refine X_rc fun R hR => ?_
 simp only [EVP, inr_i64, Int.reduceLE, Int.reduceNeg, aops, astep, awant, aeff, aop, abin, aint, ev, ofValue, St.put, zmc, zmn, zg1, zg0, zgd, zmo, if_true, zs1, zs0, zca, zna, and_self, any85, hI]
 with_reducible refine hR _ ?_
 clear hR R
 show X _ _ _ _
 refine X_ret ?_
 show _ ∧ _
 refine ⟨.inr rfl, ?_, by simp, by simp, rfl, rfl⟩
 simp only [resD, resAll, resOne, resTup, Try.results71, EVP, zg1, zg0, D.good, if_true, zmo] <;> (first | (rw [← hN]; rfl; done) | (simpa using hN; done) | (simp [← hN]; done) | (exfalso; simp_all; done) | (trace_state; fail))

end Go.Proofs.Ytmglacjcefajlaa
