/- Layouts over data: frames, finding a slot. -/
import Derived.Test.YthgdibdapjaljaaSc1
namespace Go.Proofs.Ythgdibdapjaljaa
open Go.RowKit

theorem ty_layout_Slot : tyOf Try.prog 27 = some { sz := 4, agg := true, flds := [(0, 1, false), (1, 1, false), (2, 1, false), (3, 1, false)], elem := none, zero := some [.str ⟨#[]⟩, .int .u8 0, .int .i64 0, .int .i64 0], bytes := 40 } := by kernel_rfl
theorem ty_s_layout_Slot : tyOf Try.prog 22 = some { sz := 1, agg := false, flds := [], elem := some 27, zero := some [.slice .nil 0 []], bytes := 24 } := by kernel_rfl
theorem ty_layout_Frame : tyOf Try.prog 24 = some { sz := 3, agg := true, flds := [(0, 1, false), (1, 1, false), (2, 1, false)], elem := none, zero := some [.slice .nil 0 [], .int .i64 0, .int .i64 0], bytes := 40 } := by kernel_rfl
theorem ty_backstepref26_Slot : tyOf Try.prog 30 = some { sz := 4, agg := true, flds := [(0, 1, false), (1, 1, false), (2, 1, false), (3, 1, false)], elem := none, zero := some [.str ⟨#[]⟩, .int .u8 0, .int .i64 0, .int .i64 0], bytes := 40 } := by kernel_rfl
theorem ty_backstepref26_Frame : tyOf Try.prog 35 = some { sz := 3, agg := true, flds := [(0, 1, false), (1, 1, false), (2, 1, false)], elem := none, zero := some [.slice .nil 0 [], .int .i64 0, .int .i64 0], bytes := 40 } := by kernel_rfl
theorem ty_api_State : tyOf Try.prog 74 = some { sz := 3, agg := true, flds := [(0, 1, false), (1, 1, false), (2, 1, false)], elem := none, zero := some [.slice .nil 0 [], .slice .nil 0 [], .slice .nil 0 []], bytes := 72 } := by kernel_rfl
theorem ty_s_s_int : tyOf Try.prog 72 = some { sz := 1, agg := false, flds := [], elem := some 67, zero := some [.slice .nil 0 []], bytes := 24 } := by kernel_rfl
noncomputable def fs_layout_Slot : Array Field := match Try.prog.underlying 27 with | some (.struct fs) => fs | _ => #[]
theorem st_layout_Slot : Try.prog.underlying 27 = some (.struct fs_layout_Slot) := by kernel_rfl
theorem sta_layout_Slot : (fs_layout_Slot.toList.all fun f => (Try.prog.info? f.type).isSome) = true := by kernel_rfl
noncomputable def fs_layout_Frame : Array Field := match Try.prog.underlying 24 with | some (.struct fs) => fs | _ => #[]
theorem st_layout_Frame : Try.prog.underlying 24 = some (.struct fs_layout_Frame) := by kernel_rfl
theorem sta_layout_Frame : (fs_layout_Frame.toList.all fun f => (Try.prog.info? f.type).isSome) = true := by kernel_rfl
noncomputable def fs_api_State : Array Field := match Try.prog.underlying 74 with | some (.struct fs) => fs | _ => #[]
theorem st_api_State : Try.prog.underlying 74 = some (.struct fs_api_State) := by kernel_rfl
theorem sta_api_State : (fs_api_State.toList.all fun f => (Try.prog.info? f.type).isSome) = true := by kernel_rfl
theorem und_layout_Slot : Try.prog.underlying 22 = some (.slice 27) := by kernel_rfl
theorem siz_layout_Slot : Try.prog.cellsOf 27 = 4 := by kernel_rfl
noncomputable def inf_layout_Slot : TypeInfo := (Try.prog.info? 27).getD default
theorem inf_layout_Slot_eq : Try.prog.info? 27 = some inf_layout_Slot := by kernel_rfl
theorem inf_layout_Slot_size : inf_layout_Slot.size = 4 := by kernel_rfl
theorem inf_layout_Slot_bytes : inf_layout_Slot.bytes = 40 := by kernel_rfl
theorem inf_layout_Slot_zero : inf_layout_Slot.zero.isSome = true := by kernel_rfl
theorem inf_layout_Slot_zc : (inf_layout_Slot.zero.map fun z => z.cells.size) = some 4 := by kernel_rfl
theorem und_s_int : Try.prog.underlying 72 = some (.slice 67) := by kernel_rfl
noncomputable def inf_s_int : TypeInfo := (Try.prog.info? 67).getD default
theorem inf_s_int_eq : Try.prog.info? 67 = some inf_s_int := by kernel_rfl
theorem inf_s_int_size : inf_s_int.size = 1 := by kernel_rfl
theorem inf_s_int_bytes : inf_s_int.bytes = 24 := by kernel_rfl
theorem inf_s_int_zero : inf_s_int.zero.isSome = true := by kernel_rfl
theorem inf_s_int_zc : (inf_s_int.zero.map fun z => z.cells.size) = some 1 := by kernel_rfl
structure Slt where
 name : ByteArray
 kind : Int
 len : Int
 off : Int
structure Fm where
 slots : List Slt
 cells : Int
 stacks : Int
def dSl (x : Slt) : D := .agg [.str x.name, .int .u8 x.kind, .int .i64 x.len, .int .i64 x.off]
def dFm (f : Fm) : D := .agg [sl 4 (f.slots.map dSl), .int .i64 f.cells, .int .i64 f.stacks]
theorem dSl_strip (x : Slt) : (dSl x).strip = dSl x := rfl
theorem dSl_under (m : Nat) (x : Slt) : (dSl x).under m = true := rfl
theorem dSl_agg (a : ByteArray) (b c d : Int) : D.agg [.str a, .int .u8 b, .int .i64 c, .int .i64 d] = dSl ⟨a, b, c, d⟩ := rfl
theorem dSl_cells (x : Slt) : (dSl x).cells = [.str x.name, .int .u8 x.kind, .int .i64 x.len, .int .i64 x.off] := rfl
theorem dSl_isAgg (x : Slt) : (dSl x).isAgg = true := rfl
theorem dSl_good (x : Slt) : (dSl x).good = true := rfl
theorem dFm_strip (f : Fm) : (dFm f).strip = dFm f := by
 unfold dFm
 simp only [D.strip, D.strips, sl_strip (map_strip dSl_strip _)]
theorem dFm_under (m : Nat) (f : Fm) : (dFm f).under m = true := by
 unfold dFm
 simp only [D.under, D.unders, sl_under (map_under (dSl_under m) _), Bool.and_true]
theorem dFm_pl (f : Fm) : ((dFm f).under 0 && (dFm f).good) = true := by rw [dFm_under]; rfl
def noS : Slt := ⟨⟨#[]⟩, 0, 0, 0⟩
def hitS (s : ByteArray) (k : Int) (x : Slt) : Bool := x.name.toList == s.toList && x.kind == k
def ixS (l : List Slt) (s : ByteArray) (k : Int) : Nat → Nat → Int
 | _, 0 => -1
 | i, n + 1 => match l[i]? with
  | some q => if hitS s k q then (i : Int) else ixS l s k (i + 1) n
  | none => -1
theorem ixS_y {l : List Slt} {s : ByteArray} {k : Int} {i : Nat} (h : i < l.length) (h' : hitS s k l[i] = true) : ixS l s k i (l.length - i) = i := by
 obtain ⟨m, hm⟩ : ∃ m, l.length - i = m + 1 := ⟨l.length - i - 1, by omega⟩
 rw [hm]; simp only [ixS, List.getElem?_eq_getElem h, h', if_true]
theorem ixS_n {l : List Slt} {s : ByteArray} {k : Int} {i : Nat} (h : i < l.length) (h' : hitS s k l[i] = false) : ixS l s k i (l.length - i) = ixS l s k (i + 1) (l.length - (i + 1)) := by
 obtain ⟨m, hm⟩ : ∃ m, l.length - i = m + 1 := ⟨l.length - i - 1, by omega⟩
 rw [hm, show l.length - (i + 1) = m from by omega]; simp only [ixS, List.getElem?_eq_getElem h, h', zft, if_false]
/-- the first slot with a name and a kind -/
def fdS (l : List Slt) (s : ByteArray) (k : Int) : Slt × Bool := match l.find? (hitS s k) with
 | some x => (x, true)
 | none => (noS, false)
theorem ixS_spec (l : List Slt) (s : ByteArray) (k : Int) : ∀ (n i : Nat), i + n = l.length → (ixS l s k i n = -1 ∧ (l.drop i).find? (hitS s k) = none) ∨ ∃ j, ∃ hj : j < l.length, ixS l s k i n = (j : Int) ∧ (l.drop i).find? (hitS s k) = some l[j]
 | 0, i, h => .inl ⟨rfl, by rw [List.drop_of_length_le (by omega)]; rfl⟩
 | n + 1, i, h => by
  have hi : i < l.length := by omega
  rw [List.drop_eq_getElem_cons hi]
  simp only [ixS, List.getElem?_eq_getElem hi, List.find?_cons]
  cases q : hitS s k l[i] with
  | true => exact .inr ⟨i, hi, by simp, by simp⟩
  | false => simpa using ixS_spec l s k n (i + 1) (by omega)
set_option maxRecDepth 100000 in
set_option maxHeartbeats 4000000 in
theorem fclo_cal (x : Slt) (s : ByteArray) (k : Int) (b c : Nat) (fr : List D) (B : List (List D)) (nx : Nat) (lv : List Nat) (hb : B[b]? = some [.str s]) (hc : B[c]? = some [.int .u8 k]) (hfr : Free B) : cal EV 27 [dSl x, .ptr b 0, .ptr c 0] ⟨fr, B, nx, lv⟩ = some (.bool (hitS s k x), ⟨fr, B, nx, lv⟩) := by
 have hb2 : ∀ y, (B ++ [y])[b]? = some [.str s] := fun y => by rw [List.getElem?_append_left (List.getElem?_eq_some_iff.1 hb).1]; exact hb
 have hc2 : ∀ y, (B ++ [y])[c]? = some [.int .u8 k] := fun y => by rw [List.getElem?_append_left (List.getElem?_eq_some_iff.1 hc).1]; exact hc
 refine cal_X (σ := ⟨fr, B, nx, lv⟩) rfl Try.func27 rfl (by simp [plain, D.under, dSl_under]) rfl (hfr.all _) ?_
 simp only [enterSt, Try.ntmps27, zlc, zln, Nat.reduceAdd, Nat.reduceSub, zr1, zr0, zca, zna]
 refine X_seq ?_
 refine X_rc fun R hR => ?_
 simp only [aops, astep, awant, aeff, aop, ev, ofValue, St.put, zg0, zgd, zmo, if_true, zs1, zs0, dSl_cells, dSl_good]
 with_reducible refine hR _ ?_
 clear hR R
 show X _ _ _ _
 refine X_seq ?_
 refine X_yC ?_
 refine Y_kC 5 fun R hR => ?_
 simp only [EVP, app_get0, aops, astep, awant, aeff, aop, abin, astr, mkD, ev, St.put, ia_str, zg1, zg0, zgd, zmo, if_true, zs1, zs0, zlc, zln, zd0, zt1, zt0, Nat.reduceAdd, Nat.reduceLeDiff, Nat.zero_add, Nat.add_zero, zft, if_false, reduceCtorEq, ty_string, ty_layout_Slot, hb2]
 with_reducible refine hR _ ?_
 clear hR R
 simp only [zd1, zd0]
 refine Y_ifC 9 (by simp only [ev, zg1, zg0, zgd]; exact rfl) ?_ ?_
 ·intro b1
  have c1 := b1
  try simp only [beq_iff_eq] at c1
  refine Y_endC fun R hR => ?_
  simp only [EVP, app_get0, aops, astep, awant, aeff, aop, abin, aint, mkD, ev, ofValue, St.put, ia_int, zg1, zg0, zgd, zmo, zbs, if_true, zs1, zs0, zlc, zln, zd1, zd0, zt1, zt0, Nat.reduceAdd, Nat.reduceLeDiff, Nat.zero_add, zft, if_false, reduceCtorEq, beq_self_eq_true, ty_uint8, ty_layout_Slot, c1, hc2]
  with_reducible refine hR _ ?_
  clear hR R
  show X _ _ _ _
  refine X_ret ?_
  show _ ∧ _
  refine ⟨.inr rfl, ?_, by simp, by simp, rfl, rfl⟩
  simp only [resD, resAll, resOne, resTup, Try.results27, EVP, zg1, zg0, D.good, if_true, zmo] <;> (first | (simp_all [hitS]; done) | (exfalso; simp_all; done))
 ·intro b2
  have c2 := b2
  try simp only [ne_eq, beq_eq_false_iff_ne] at c2
  refine Y_endC fun R hR => ?_
  simp only [EVP, aops, astep, awant, aeff, aop, abin, mkD, ev, ofValue, St.put, ia_int, zg1, zg0, zgd, zmo, Option.map_none, zbs, if_true, zs1, zs0, zlc, zln, zd0, zt1, zt0, Nat.reduceLeDiff, Nat.zero_add, zft, if_false, reduceCtorEq, bq_ft, ty_uint8, ty_layout_Slot, b2, hc2]
  with_reducible refine hR _ ?_
  clear hR R
  show X _ _ _ _
  refine X_ret ?_
  show _ ∧ _
  refine ⟨.inr rfl, ?_, by simp, by simp, rfl, rfl⟩
  simp only [resD, resAll, resOne, resTup, Try.results27, EVP, zg1, zg0, D.good, if_true, zmo] <;> (first | (simp_all [hitS]; done) | (exfalso; simp_all; done))
set_option maxRecDepth 100000 in
set_option maxHeartbeats 4000000 in
theorem fidx_cal (l : List Slt) (s : ByteArray) (k : Int) (b c : Nat) (fr : List D) (B : List (List D)) (nx : Nat) (lv : List Nat) (hll : l.length ≤ 1000000) (hb : B[b]? = some [.str s]) (hc : B[c]? = some [.int .u8 k]) (hfr : Free B) : cal EV 26 [sl 4 (l.map dSl), .fn 27 [.ptr b 0, .ptr c 0]] ⟨fr, B, nx, lv⟩ = some (.int .i64 (ixS l s k 0 l.length), ⟨fr, B, nx, lv⟩) := by
 refine cal_X (σ := ⟨fr, B, nx, lv⟩) rfl Try.func26 rfl (by simp [plain, D.under, D.unders]) rfl (hfr.all _) ?_
 simp only [enterSt, Try.ntmps26, zlc, zln, Nat.reduceAdd, Nat.reduceSub, zr1, zr0, zca, zna]
 refine X_seq ?_
 refine X_rc fun R hR => ?_
 simp only [inr_i64, Int.reduceLE, Int.reduceNeg, aops, astep, awant, aeff, aop, ev, ofValue, St.put, zgd, zmo, if_true, zs1, zs0, and_self, sl]
 with_reducible refine hR _ ?_
 clear hR R
 show X _ _ _ _
 refine X_seq ?_
 refine X_seq ?_
 refine X_rc fun R hR => ?_
 simp only [EVP, inr_i64, Int.reduceLE, Int.reduceNeg, aops, astep, awant, aeff, aop, ev, ofValue, St.put, zg1, zg0, zgd, zmo, if_true, zs1, zs0, zlm, and_self, und_layout_Slot]
 with_reducible refine hR _ ?_
 clear hR R
 show X _ _ _ _
 refine X_block ?_
 refine X_loop (fun m σ => ∃ (i : Nat), σ = ⟨[.slice .imm (if (l.map dSl).isEmpty = true then 0 else 4) (l.map dSl), .fn 27 [.ptr b 0, .ptr c 0], slotOf σ 2, slotOf σ 3, slotOf σ 4, slotOf σ 5, .slice .imm (if (l.map dSl).isEmpty = true then 0 else 4) (l.map dSl), .int .i64 l.length, .int .i64 i, slotOf σ 9, slotOf σ 10, slotOf σ 11, slotOf σ 12, slotOf σ 13, slotOf σ 14, slotOf σ 15, slotOf σ 16, slotOf σ 17, slotOf σ 18], B, nx, lv⟩ ∧ m = l.length - i ∧ i ≤ l.length ∧ Hid (ixS l s k 0 l.length = ixS l s k i (l.length - i))) ?_ (l.length) _ ?_
 rotate_left
 ·exact ⟨0, rfl, rfl, Nat.zero_le _, Lib.hid rfl⟩
 rintro m σ ⟨i, hσ, rfl, hi, hf⟩
 generalize slotOf σ = x at hσ
 subst hσ
 refine X_seq ?_
 refine X_rc fun R hR => ?_
 simp only [nat_lt, aops, astep, awant, aeff, aop, abin, aint, ev, St.put, zg1, zg0, zgd, zmo, if_true, zs1, zs0]
 with_reducible refine hR _ ?_
 clear hR R
 show X _ _ _ _
 refine X_seq ?_
 refine X_ite (by simp only [ev, zg1, zg0, zgd]; exact rfl) ?_ ?_
 ·intro b1
  have c1 := b1
  try simp only [decide_eq_true_eq] at c1
  refine X_skip ?_
  show X _ _ _ _
  refine X_seq ?_
  refine X_block ?_
  refine X_seq ?_
  have hlt : i < l.length := by first | assumption | omega
  refine X_rc fun R hR => ?_
  simp only [aops, astep, awant, aeff, aop, ev, St.put, zg1, zg0, zgd, zmo, if_true, zs1, zs0, decide_true, c1]
  with_reducible refine hR _ ?_
  clear hR R
  show X _ _ _ _
  refine X_seq ?_
  have hn1 : ((if (l.map dSl).isEmpty = true then 0 else 4) = 4) = True := eq_true (sl_n (j := i) (by simpa using hlt))
  have e1 : (l.map dSl)[i]? = some (dSl l[i]) := by simp [hlt]
  have hcl := fun fr => fclo_cal l[i] s k b c fr B nx lv hb hc hfr
  have q3 : (dSl l[i]).cells.length = 4 := rfl
  refine X_rc fun R hR => ?_
  simp only [EVP, nat_lt, nat_0, nat_to, aops, astep, awant, aeff, aop, ev, St.put, zmc, zmn, zg1, zg0, zgd, zmo, if_true, zs1, zs0, zlm, zca, zna, and_self, zis, ty_layout_Slot, und_layout_Slot, siz_layout_Slot, inf_layout_Slot_eq, dSl_isAgg, any27, c1, hn1, e1, hcl, q3]
  with_reducible refine hR _ ?_
  clear hR R
  show X _ _ _ _
  refine X_ite (by simp only [ev, zg1, zg0, zgd]; exact rfl) ?_ ?_
  ·intro b2
   have c2 := b2
   try simp only [znt, znf, decide_eq_true_eq, decide_eq_false_iff_not, beq_iff_eq, Int.not_lt, Int.not_le, ge_iff_le, gt_iff_lt, bne_iff_ne, ne_eq, bne_eq_false_iff_eq, beq_eq_false_iff_ne, zat, zof] at c2
   refine X_seq ?_
   refine X_rc fun R hR => ?_
   simp only [aops, astep, awant, aeff, aop, ev, St.put, zg1, zg0, zgd, zmo, if_true, zs1, zs0, b2]
   with_reducible refine hR _ ?_
   clear hR R
   show X _ _ _ _
   refine X_ret ?_
   show _ ∧ _
   refine ⟨.inr rfl, ?_, by simp, by simp, rfl, rfl⟩
   simp only [resD, resAll, resOne, resTup, Try.results26, EVP, zg1, zg0, D.good, if_true, zmo] <;> (first | (rw [hf.out, ixS_y hlt (by assumption)]; done) | (rw [hf.out, show l.length - i = 0 from by omega]; rfl; done) | (exfalso; simp_all; done))
  ·intro b3
   have c3 := b3
   try simp only [znt, znf, decide_eq_true_eq, decide_eq_false_iff_not, beq_iff_eq, Int.not_lt, Int.not_le, ge_iff_le, gt_iff_lt, bne_iff_ne, ne_eq, bne_eq_false_iff_eq, beq_eq_false_iff_ne, zat, zof] at c3
   refine X_skip ?_
   show X _ _ _ _
   have hbig : i < 9223372036854775807 := by omega
   refine X_rc fun R hR => ?_
   simp only [inr_i64, Int.reduceLE, Int.reduceNeg, aops, astep, awant, aeff, aop, abin, aint, ev, ofValue, St.put, zg1, zg0, zgd, zmo, if_true, zs1, zs0, and_self, b3, nat_succ hbig]
   with_reducible refine hR _ ?_
   clear hR R
   show ∃ m, m < _ ∧ _
   exact ⟨l.length - (i + 1), by omega, i + 1, rfl, rfl, by omega, Lib.hid (hf.out.trans (ixS_n hlt (by first | assumption | simp_all)))⟩
 ·intro b4
  have c4 := b4
  try simp only [decide_eq_false_iff_not] at c4
  refine X_exit ?_
  show X _ _ _ _
  refine X_seq ?_
  refine X_rc fun R hR => ?_
  simp only [inr_i64, Int.reduceLE, Int.reduceNeg, aops, astep, awant, aeff, aop, ev, ofValue, St.put, zgd, zmo, if_true, zs1, zs0, and_self, decide_false, c4]
  with_reducible refine hR _ ?_
  clear hR R
  show X _ _ _ _
  refine X_ret ?_
  show _ ∧ _
  refine ⟨.inr rfl, ?_, by simp, by simp, rfl, rfl⟩
  simp only [resD, resAll, resOne, resTup, Try.results26, EVP, zg1, zg0, D.good, if_true, zmo] <;> (first | (rw [hf.out, ixS_y hlt (by assumption)]; done) | (rw [hf.out, show l.length - i = 0 from by omega]; rfl; done) | (exfalso; simp_all; done))
set_option maxRecDepth 100000 in
set_option maxHeartbeats 4000000 in
theorem lfind_fn (f : Fm) (s : ByteArray) (k : Int) (hll : f.slots.length ≤ 1000000) : fn EV 11 [dFm f, .str s, .int .u8 k] = some (.tup [dSl (fdS f.slots s k).1, .bool (fdS f.slots s k).2]) := by
 have hF : Free [[.slice .imm (if (f.slots.map dSl).isEmpty = true then 0 else 4) (f.slots.map dSl), .int .i64 f.cells, .int .i64 f.stacks], [.str s], [.int .u8 k], [.str ⟨#[]⟩, .int .u8 0, .int .i64 0, .int .i64 0]] := fun cs hc m => by
  simp only [List.mem_cons, List.not_mem_nil, or_false] at hc
  rcases hc with rfl | rfl | rfl | rfl
  ·exact dFm_under m f
  ·rfl
  ·rfl
  ·rfl
 refine fn_X rfl Try.func11 rfl (by simp only [plain, List.all_cons, List.all_nil, dFm_pl, str_pl, int_pl, Bool.and_true]) (rfl) (rfl) (rfl) ?_
 simp only [zmc, zmn, D.strip, dFm_strip]
 simp only [enterSt, Try.ntmps11, zlc, zln, Nat.reduceAdd, Nat.reduceSub, zr1, zr0, zca, zna]
 refine X_seq ?_
 refine X_rc fun R hR => ?_
 simp only [EVP, aops, astep, awant, aeff, aop, ev, ofValue, St.put, gd_int, cl_int, gd_str, cl_str, gd_agg, cl_agg, zg1, zg0, zgd, zmo, zbs, if_true, zs1, zs0, zlc, zln, zca, zna, Nat.reduceAdd, Nat.zero_add, ty_layout_Slot, sl, dFm]
 with_reducible refine hR _ ?_
 clear hR R
 show X _ _ _ _
 refine X_seq ?_
 have hI := fun fr => fidx_cal f.slots s k 1 2 fr [[.slice .imm (if (f.slots.map dSl).isEmpty = true then 0 else 4) (f.slots.map dSl), .int .i64 f.cells, .int .i64 f.stacks], [.str s], [.int .u8 k], [.str ⟨#[]⟩, .int .u8 0, .int .i64 0, .int .i64 0]] 0 [] hll rfl rfl hF
 simp only [sl] at hI
 refine X_rc fun R hR => ?_
 simp only [EVP, aops, astep, awant, aeff, aop, mkD, ev, St.put, ia_slice, gd_ptr, ia_ptr, zmc, zmn, zg1, zg0, zgd, zmo, if_true, zs1, zs0, zlc, zln, zd0, zt1, zt0, zca, zna, Nat.reduceAdd, Nat.reduceLeDiff, Nat.zero_add, Nat.add_zero, Bool.and_true, Bool.not_false, zft, if_false, and_self, reduceCtorEq, List.all_cons, List.all_nil, Array.isEmpty_empty, ty_s_layout_Slot, ty_layout_Frame, any26, hI]
 with_reducible refine hR _ ?_
 clear hR R
 show X _ _ _ _
 refine X_seq ?_
 refine X_seq ?_
 refine X_rc fun R hR => ?_
 simp only [inr_i64, Int.reduceLE, Int.reduceNeg, aops, astep, awant, aeff, aop, abin, aint, ev, ofValue, St.put, zg1, zg0, zgd, zmo, if_true, zs1, zs0, and_self]
 with_reducible refine hR _ ?_
 clear hR R
 show X _ _ _ _
 refine X_ite (by simp only [ev, zg1, zg0, zgd]; exact rfl) ?_ ?_
 ·intro b1
  have c1 := b1
  try simp only [decide_eq_true_eq] at c1
  refine X_seq ?_
  refine X_rc fun R hR => ?_
  simp only [EVP, aops, astep, awant, aeff, aop, afill, astore, ev, ofValue, St.put, gd_agg, cl_agg, zmn, zg1, zg0, zgd, zmo, if_true, zs1, zs0, zlc, zln, zd1, zd0, zt0, zca, zna, Nat.reduceAdd, Nat.reduceLeDiff, Nat.zero_add, and_self, ty_layout_Slot, st_layout_Slot, sta_layout_Slot, b1]
  with_reducible refine hR _ ?_
  clear hR R
  show X _ _ _ _
  refine X_ret ?_
  show resD _ _ _ = some _
  have hj := ixS_spec f.slots s k f.slots.length 0 (by omega)
  rw [zd0] at hj
  have h0 : f.slots.find? (hitS s k) = none := by
   rcases hj with ⟨_, q⟩ | ⟨j, hj, q, _⟩
   ·exact q
   ·exfalso; simp_all; omega
  simp only [resD, resAll, resOne, resTup, Try.results11, EVP, mkD, ty_layout_Slot, zg1, zg0, zd0, zt1, zt0, zlc, zln, Nat.reduceAdd, Nat.reduceLeDiff, Nat.zero_add, D.good, if_true, zmo] <;> (first | (simp only [fdS, h0]; rfl; done) | (exfalso; simp_all; done))
 ·intro b2
  have c2 := b2
  try simp only [decide_eq_false_iff_not, Int.not_lt] at c2
  refine X_skip ?_
  show X _ _ _ _
  refine X_seq ?_
  have hj := ixS_spec f.slots s k f.slots.length 0 (by omega)
  rw [zd0] at hj
  obtain ⟨j, hj0, hj1, hj2⟩ : ∃ j, ∃ hj : j < f.slots.length, ixS f.slots s k 0 f.slots.length = (j : Int) ∧ f.slots.find? (hitS s k) = some f.slots[j] := by
   rcases hj with ⟨q, _⟩ | q
   ·exfalso; simp_all
   ·exact q
  have hn1 : ((if (f.slots.map dSl).isEmpty = true then 0 else 4) = 4) = True := eq_true (sl_n (j := j) (by simpa using hj0))
  have e1 : (f.slots.map dSl)[j]? = some (dSl f.slots[j]) := by simp [hj0]
  have hlt : ((j : Int) < (f.slots.length : Int)) = True := eq_true (by omega)
  have q3 : (dSl f.slots[j]).cells.length = 4 := rfl
  refine X_rc fun R hR => ?_
  simp only [EVP, nat_0, nat_to, aops, astep, awant, aeff, aop, mkD, astore, ev, ofValue, St.put, ia_slice, zg1, zg0, zgd, zmo, if_true, zs1, zs0, zlm, zlc, zln, zd1, zd0, zt1, zt0, zca, zna, Nat.reduceAdd, Nat.reduceLeDiff, Nat.zero_add, Nat.add_zero, zft, if_false, and_self, reduceCtorEq, zis, ty_layout_Slot, ty_s_layout_Slot, ty_layout_Frame, und_layout_Slot, siz_layout_Slot, inf_layout_Slot_eq, dSl_isAgg, dSl_cells, dSl_good, hj1, hn1, e1, hlt]
  with_reducible refine hR _ ?_
  clear hR R
  show X _ _ _ _
  refine X_ret ?_
  show resD _ _ _ = some _
  simp only [resD, resAll, resOne, resTup, Try.results11, EVP, mkD, ty_layout_Slot, zg1, zg0, zd0, zt1, zt0, zlc, zln, Nat.reduceAdd, Nat.reduceLeDiff, Nat.zero_add, D.good, if_true, zmo] <;> (first | (simp only [fdS, hj2]; rfl; done) | (exfalso; simp_all; done))
end Go.Proofs.Ythgdibdapjaljaa
