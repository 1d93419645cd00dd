/- The law ScopeUnused: its walk where there are no faults; all together. -/
import Derived.Test.YtjikokmhknnnoaaW8
import Derived.Test.YtjikokmhknnnoaaRead
import Derived.Test.YtjikokmhknnnoaaBK
namespace Go.Proofs.Ytjikokmhknnnoaa
open Go.RowKit

set_option maxRecDepth 100000 in
set_option maxHeartbeats 4000000 in
theorem law8_z (p : Pg) (hsb : smallB p = true) (hp : procI p un8 < 0) (hm : mentB un8 p.main = false) (hc : callsB p un8 = false) (hf : hasV p.vars un8 = false) (hM : checkF (addP un8 p) = []) : fn EV 6 [dG p] = some (.bool true) := by
  obtain ⟨hvd, hp6, hv20, hm80⟩ := small_valid hsb
  have esz : (if (ByteArray.mk #[117, 110, 117, 115, 101, 100, 56]).size ≤ 9223372036854775807 then some (D.str (ByteArray.mk #[117, 110, 117, 115, 101, 100, 56])) else none) = some (D.str un8) := if_pos (by simp [ByteArray.size])
  have hq8 : ∀ q ∈ p.procs, q.body.size ≤ 1000000 := fun q hq => by have := ((valid_bd hvd).2.2.1 q hq).2.1; omega
  have hvP := validB_addP hsb
  have hvV := validB_addV hsb
  obtain ⟨hcm, hcp⟩ := calls_off hc
  obtain ⟨hML0, hlm0⟩ := check_addP hp hcm hcp
  have hblk : blockB p.main = true := by have h := hvd; simp only [validB, bodyB, Bool.and_eq_true] at h; exact h.2.2
  have hLV := check_addV (s := un8) hf hm (block_w un8_ne p.main hblk)
  have hL : checkF p = [] := List.eq_nil_of_length_eq_zero (by rw [← hlm0, hM]; rfl)
  have heq := equal_fn [] (by simp) (fun f hf => absurd hf (by simp))
  simp only [sl, List.map_nil, List.isEmpty_nil, if_true] at heq
  refine fn_X rfl Try.func6 rfl (by simp only [plain, List.all_cons, List.all_nil, dG_pl, Bool.and_true]) (rfl) (rfl) (rfl) ?_
  simp only [List.map_cons, List.map_nil, dG_strip]
  simp only [enterSt, Try.ntmps6, List.length_cons, List.length_nil, Nat.reduceAdd, Nat.reduceSub, List.replicate_succ, List.replicate_zero, List.cons_append, List.nil_append]
  refine X_seq ?_
  refine X_rg fun R hR => ?_
  simp only [aops, astep, awant, aeff, aop, ev, ofValue, St.put, List.getElem?_cons_zero, Option.getD_some, Option.map_some, if_true, List.set_cons_succ, List.set_cons_zero, List.length_nil, List.nil_append, dG_cells, dG_good]
  with_reducible refine hR _ ?_
  clear hR R
  show X _ _ _ _
  refine X_seq ?_
  refine X_seq ?_
  refine X_rg fun R hR => ?_
  simp only [EVP, aops, astep, awant, aeff, aop, ev, St.put, pcall, List.map_nil, List.getElem?_cons_succ, List.getElem?_cons_zero, Option.getD_some, Option.map_some, if_true, List.set_cons_succ, List.set_cons_zero, List.nil_append, Bool.not_true, any12, awake_ok]
  with_reducible refine hR _ ?_
  clear hR R
  show X _ _ _ _
  refine X_false (by simp only [ev, List.getElem?_cons_succ, List.getElem?_cons_zero, Option.getD_some]) ?_
  refine X_skip ?_
  show X _ _ _ _
  refine X_seq ?_
  refine X_seq ?_
  have hsm := small_fn p
  rw [if_pos hsb] at hsm
  have hpr := proc_fn p un8 (by omega)
  rw [show idxN p.procs un8 0 p.procs.length = procI p un8 from rfl] at hpr
  have hd1 : decide (0 ≤ procI p un8) = false := by simp; omega
  have hd2 : decide (procI p un8 ≥ 0) = false := by simp; omega
  have hme := ment_fn un8 p.main.size p.main (Nat.le_refl _) (by omega)
  rw [hm] at hme
  have hca := calls_fn p un8 (by omega) (by omega) hq8
  rw [hc, if_neg (by decide)] at hca
  refine X_rg fun R hR => ?_
  simp only [EVP, inr_i64, Int.reduceLE, Int.reduceNeg, aops, astep, awant, aeff, aop, abin, aint, mkD, ev, ofValue, St.put, pcall, List.map_cons, List.map_nil, List.getElem?_cons_succ, List.getElem?_cons_zero, Option.getD_some, Option.map_some, Option.bind_some, if_true, List.set_cons_succ, List.set_cons_zero, List.length_cons, List.length_nil, List.drop_succ_cons, List.drop_zero, List.take_succ_cons, List.take_zero, List.cons_append, List.nil_append, Nat.reduceAdd, Nat.reduceLeDiff, Nat.zero_add, Bool.false_eq_true, if_false, and_self, reduceCtorEq, beq_self_eq_true, Int.reduceBEq, ty_api_Node, ty_api_Program, any15, any19, any22, any25, dN_agg, dG_agg, hsm, esz, hpr, hd1, hme, hca]
  with_reducible refine hR _ ?_
  clear hR R
  show X _ _ _ _
  refine X_false (by simp only [ev, List.getElem?_cons_succ, List.getElem?_cons_zero, Option.getD_some]) ?_
  refine X_skip ?_
  show X _ _ _ _
  refine X_seq ?_
  refine X_seq ?_
  have hfi := find_fn p.vars un8 (by omega)
  rw [hasV_eq, hf] at hfi
  simp only [sl] at hfi
  refine X_rg fun R hR => ?_
  simp only [EVP, aops, astep, awant, aeff, aop, mkD, astore, ev, ofValue, St.put, pcall, ia_slice, List.map_cons, List.map_nil, List.getElem?_cons_succ, List.getElem?_cons_zero, Option.getD_some, Option.map_some, Option.bind_some, if_true, List.set_cons_succ, List.set_cons_zero, List.length_cons, List.length_nil, List.drop_succ_cons, List.drop_zero, List.take_succ_cons, List.take_zero, List.cons_append, List.nil_append, Nat.reduceAdd, Nat.reduceLeDiff, Nat.zero_add, Nat.add_zero, Bool.false_eq_true, if_false, and_self, reduceCtorEq, ty_s_api_VarDecl, ty_api_VarDecl, ty_api_Program, any13, dV_good, dV_cells, hfi, esz]
  with_reducible refine hR _ ?_
  clear hR R
  show X _ _ _ _
  refine X_seq ?_
  refine X_rg fun R hR => ?_
  simp only [aops, astep, awant, aeff, aop, ev, St.put, List.getElem?_cons_succ, List.getElem?_cons_zero, Option.getD_some, Option.map_some, if_true, List.set_cons_succ, List.set_cons_zero]
  with_reducible refine hR _ ?_
  clear hR R
  show X _ _ _ _
  refine X_false (by simp only [ev, List.getElem?_cons_succ, List.getElem?_cons_zero, Option.getD_some]) ?_
  refine X_skip ?_
  show X _ _ _ _
  refine X_seq ?_
  refine X_rg fun R hR => ?_
  simp only [EVP, aops, astep, awant, aeff, aop, mkD, astore, ev, St.put, List.getElem?_cons_succ, List.getElem?_cons_zero, Option.getD_some, Option.map_some, Option.bind_some, if_true, List.set_cons_succ, List.set_cons_zero, List.length_cons, List.length_nil, List.drop_succ_cons, List.drop_zero, List.take_succ_cons, List.take_zero, List.cons_append, List.nil_append, Nat.reduceAdd, Nat.reduceLeDiff, Nat.zero_add, and_self, ty_api_Program, dG_agg, dG_cells, dG_good]
  with_reducible refine hR _ ?_
  clear hR R
  show X _ _ _ _
  refine X_seq ?_
  obtain ⟨s1, n1, l1, hs1, hap1⟩ := app_gen (P := Try.prog) (t := 25) (e := 32) (nx := 1) (lv := [0]) (st := 0) (by simp) ([]) (p.procs.map dP) .imm (if (p.procs.map dP).isEmpty = true then 0 else 6) und_api_Proc inf_api_Proc_eq inf_api_Proc_size (by omega) (by rw [inf_api_Proc_bytes]; omega) inf_api_Proc_zc (by simp; omega) (fun h => if_neg (by simpa using h))
  simp only [List.nil_append] at hap1
  obtain ⟨s2, n2, l2, hs2, hap2⟩ := app_gen (P := Try.prog) (t := 25) (e := 32) (nx := n1 + 1) (lv := n1 :: l1) (st := s1) (by simp [hs1]) (p.procs.map dP) ([D.agg [.str un8, .slice .nil 0 [], .int .u8 57, .int .i64 0, .str ⟨#[]⟩, .slice .imm 0 []]]) (.own n1 32) (6) und_api_Proc inf_api_Proc_eq inf_api_Proc_size (by omega) (by rw [inf_api_Proc_bytes]; omega) inf_api_Proc_zc (by simp; omega) (fun _ => rfl)
  refine X_rg fun R hR => ?_
  simp only [EVP, aops, astep, awant, aeff, aop, mkD, afill, abuild, astore, ev, ofValue, St.put, pcall, gd_str, cl_str, gd_agg, cl_agg, gd_slice, ia_slice, cl_slice, List.map_cons, List.map_nil, List.getElem?_cons_succ, List.getElem?_cons_zero, Option.getD_some, Option.map_some, if_true, List.set_cons_succ, List.set_cons_zero, List.length_cons, List.length_nil, List.drop_succ_cons, List.drop_zero, List.take_succ_cons, List.take_zero, List.cons_append, List.nil_append, Nat.reduceAdd, Nat.reduceLeDiff, Nat.reduceLT, Nat.zero_add, Bool.and_true, Bool.false_eq_true, if_false, and_self, reduceCtorEq, List.all_cons, List.all_nil, beq_self_eq_true, Nat.reduceMul, rng_0, rng_1, ty_s_api_Proc, ty_api_Proc, ty_api_Program, st_api_Proc, sta_api_Proc, und_api_Proc, inf_api_Proc_eq, inf_api_Proc_size, inf_api_Proc_zero, any26, hap1, hap2, block_fn, esz, inf_api_Proc_size]
  with_reducible refine hR _ ?_
  clear hR R
  show X _ _ _ _
  refine X_seq ?_
  obtain ⟨s3, n3, l3, hs3, hap3⟩ := app_gen (P := Try.prog) (t := 22) (e := 34) (nx := n2 + 1) (lv := n2 :: l2) (st := n2) (by simp) ([]) (p.vars.map dV) .imm (if (p.vars.map dV).isEmpty = true then 0 else 3) und_api_VarDecl inf_api_VarDecl_eq inf_api_VarDecl_size (by omega) (by rw [inf_api_VarDecl_bytes]; omega) inf_api_VarDecl_zc (by simp; omega) (fun h => if_neg (by simpa using h))
  simp only [List.nil_append] at hap3
  obtain ⟨s4, n4, l4, hs4, hap4⟩ := app_gen (P := Try.prog) (t := 22) (e := 34) (nx := n3 + 1) (lv := n3 :: l3) (st := s3) (by simp [hs3]) (p.vars.map dV) ([D.agg [.str un8, .int .u8 3, .int .i64 0]]) (.own n3 34) (3) und_api_VarDecl inf_api_VarDecl_eq inf_api_VarDecl_size (by omega) (by rw [inf_api_VarDecl_bytes]; omega) inf_api_VarDecl_zc (by simp; omega) (fun _ => rfl)
  refine X_rg fun R hR => ?_
  simp only [EVP, inr_u8, Int.reduceLE, aops, astep, awant, aeff, aop, mkD, afill, abuild, astore, ev, ofValue, St.put, gd_int, cl_int, gd_str, cl_str, gd_agg, cl_agg, gd_slice, ia_slice, cl_slice, List.map_cons, List.map_nil, List.getElem?_cons_succ, List.getElem?_cons_zero, Option.getD_some, Option.map_some, if_true, List.set_cons_succ, List.set_cons_zero, List.length_cons, List.length_nil, List.drop_succ_cons, List.drop_zero, List.take_succ_cons, List.take_zero, List.cons_append, List.nil_append, Nat.reduceAdd, Nat.reduceLeDiff, Nat.reduceLT, Nat.zero_add, Nat.add_zero, Bool.and_true, Bool.false_eq_true, if_false, and_self, reduceCtorEq, List.all_cons, List.all_nil, beq_self_eq_true, Nat.reduceMul, rng_0, rng_1, ty_s_api_VarDecl, ty_api_VarDecl, ty_api_Program, st_api_VarDecl, sta_api_VarDecl, und_api_VarDecl, inf_api_VarDecl_eq, inf_api_VarDecl_size, inf_api_VarDecl_zero, hap3, hap4, esz, inf_api_VarDecl_size]
  with_reducible refine hR _ ?_
  clear hR R
  show X _ _ _ _
  refine X_seq ?_
  have hk0 : fn EV 18 [dG p] = some (.slice .imm 0 []) := by have h := check_fn p; rw [if_pos hvd, hL] at h; exact h
  have hk2 : fn EV 18 [D.agg [.slice .imm (if (p.vars.map dV).isEmpty = true then 0 else 3) (p.vars.map dV), .slice (.own s2 32) 6 (p.procs.map dP ++ [D.agg [.str un8, .slice .nil 0 [], .int .u8 57, .int .i64 0, .str ⟨#[]⟩, .slice .imm 0 []]]), .int .u8 p.main.kind, .int .i64 p.main.num, .str p.main.name, .slice .imm (if (p.main.kids.map dN).isEmpty = true then 0 else 4) (p.main.kids.map dN)]] = some (.slice .imm 0 []) := by have h := ch_fn hvP (gP_strip p s2 32) (gP_pl p s2 32); rw [hM] at h; exact h
  have hk3 : fn EV 18 [D.agg [.slice (.own s4 34) 3 (p.vars.map dV ++ [D.agg [.str un8, .int .u8 3, .int .i64 0]]), .slice .imm (if (p.procs.map dP).isEmpty = true then 0 else 6) (p.procs.map dP), .int .u8 p.main.kind, .int .i64 p.main.num, .str p.main.name, .slice .imm (if (p.main.kids.map dN).isEmpty = true then 0 else 4) (p.main.kids.map dN)]] = some (.slice .imm 0 []) := by have h := ch_fn hvV (gV_strip p s4 34) (gV_pl p s4 34); rw [hLV, hL] at h; exact h
  refine X_rg fun R hR => ?_
  simp only [EVP, aops, astep, awant, aeff, aop, mkD, ev, St.put, pcall, List.map_cons, List.map_nil, List.getElem?_cons_succ, List.getElem?_cons_zero, Option.getD_some, Option.map_some, if_true, List.set_cons_succ, List.set_cons_zero, List.length_cons, List.length_nil, List.drop_zero, List.take_succ_cons, List.take_zero, List.cons_append, List.nil_append, Nat.reduceAdd, Nat.reduceLeDiff, Nat.zero_add, ty_api_Program, any18, dG_agg, hk2, hk3, hk0]
  with_reducible refine hR _ ?_
  clear hR R
  show X _ _ _ _
  refine X_seq ?_
  refine X_seq ?_
  refine X_rg fun R hR => ?_
  simp only [inr_i64, Int.reduceLE, Int.reduceNeg, aops, astep, awant, aeff, aop, ev, ofValue, St.put, Option.getD_some, Option.map_some, if_true, List.set_cons_succ, List.set_cons_zero, and_self]
  with_reducible refine hR _ ?_
  clear hR R
  show X _ _ _ _
  refine X_block ?_
  refine X_loop (fun m σ => ∃ (B : List (List D)) (nx : Nat) (lv : List Nat), σ = ⟨[slotOf σ 0, slotOf σ 1, slotOf σ 2, slotOf σ 3, slotOf σ 4, slotOf σ 5, slotOf σ 6, .slice .imm 0 [], .slice .imm 0 [], .slice .imm 0 [], .int .i64 0, slotOf σ 11, slotOf σ 12, slotOf σ 13, slotOf σ 14, slotOf σ 15, slotOf σ 16, slotOf σ 17, slotOf σ 18, slotOf σ 19, slotOf σ 20, slotOf σ 21, slotOf σ 22, slotOf σ 23, slotOf σ 24, slotOf σ 25, slotOf σ 26, slotOf σ 27, slotOf σ 28, slotOf σ 29, slotOf σ 30, slotOf σ 31, slotOf σ 32, slotOf σ 33, slotOf σ 34, slotOf σ 35, slotOf σ 36, slotOf σ 37, slotOf σ 38, slotOf σ 39, slotOf σ 40, slotOf σ 41, slotOf σ 42, slotOf σ 43, slotOf σ 44, slotOf σ 45, slotOf σ 46, slotOf σ 47, slotOf σ 48, slotOf σ 49, slotOf σ 50, slotOf σ 51, slotOf σ 52, slotOf σ 53, slotOf σ 54, slotOf σ 55, slotOf σ 56, slotOf σ 57, slotOf σ 58, slotOf σ 59, slotOf σ 60, slotOf σ 61, slotOf σ 62, slotOf σ 63, slotOf σ 64, slotOf σ 65, slotOf σ 66, slotOf σ 67, slotOf σ 68, slotOf σ 69, slotOf σ 70, slotOf σ 71, slotOf σ 72, slotOf σ 73, slotOf σ 74, slotOf σ 75, slotOf σ 76, slotOf σ 77, slotOf σ 78, slotOf σ 79, slotOf σ 80, slotOf σ 81, slotOf σ 82, slotOf σ 83, slotOf σ 84, slotOf σ 85, slotOf σ 86, slotOf σ 87, slotOf σ 88, slotOf σ 89, slotOf σ 90, slotOf σ 91, slotOf σ 92, slotOf σ 93, slotOf σ 94, slotOf σ 95], B, nx, lv⟩ ∧ m = 0) ?_ (0) _ ?_
  rotate_left
  · exact ⟨_, _, _, rfl, rfl⟩
  rintro m σ ⟨B, nx, lv, hσ, rfl⟩
  generalize slotOf σ = x at hσ
  subst hσ
  refine X_seq ?_
  refine X_seq ?_
  have hz : ((0 : Int) < ((0 : Nat) : Int)) = False := by simp
  refine X_rg fun R hR => ?_
  simp only [EVP, aops, astep, awant, aeff, aop, abin, aint, ev, St.put, List.getElem?_cons_succ, List.getElem?_cons_zero, Option.getD_some, Option.map_some, if_true, List.set_cons_succ, List.set_cons_zero, List.length_nil, decide_false, und_scope_Fault, hz]
  with_reducible refine hR _ ?_
  clear hR R
  show X _ _ _ _
  refine X_false (by simp only [ev, List.getElem?_cons_succ, List.getElem?_cons_zero, Option.getD_some]) ?_
  refine X_exit ?_
  show X _ _ _ _
  refine X_seq ?_
  refine X_rg fun R hR => ?_
  simp only [EVP, inr_i64, Int.reduceLE, Int.reduceNeg, aops, astep, awant, aeff, aop, abin, aint, ev, ofValue, St.put, pcall, List.map_cons, List.map_nil, List.getElem?_cons_succ, List.getElem?_cons_zero, Option.getD_some, Option.map_some, Option.bind_some, if_true, List.set_cons_succ, List.set_cons_zero, List.cons_append, List.nil_append, and_self, beq_self_eq_true, any27, heq]
  with_reducible refine hR _ ?_
  clear hR R
  show X _ _ _ _
  refine X_ret ?_
  show resD _ _ _ = some _
  simp only [resD, resAll, resOne, resTup, Try.results6, EVP, List.getElem?_cons_succ, List.getElem?_cons_zero, D.good, if_true, Option.map_some]
theorem law8_any (p : Pg) : PContract Try.prog 6 [dG p] (.bool true) := by
  by_cases h1 : smallB p = true
  · by_cases h2 : 0 ≤ procI p un8
    · exact fn_sound EV EV_ok (law8_p p h1 h2)
    · have h2' : procI p un8 < 0 := by omega
      cases h3 : mentB un8 p.main with
      | true => exact fn_sound EV EV_ok (law8_m p h1 h2' h3)
      | false =>
        cases h4 : callsB p un8 with
        | true => exact fn_sound EV EV_ok (law8_c p h1 h2' h3 h4)
        | false =>
          cases h5 : hasV p.vars un8 with
          | true => exact fn_sound EV EV_ok (law8_f p h1 h2' h3 h4 h5)
          | false =>
            by_cases h6 : checkF (addP un8 p) = []
            · exact fn_sound EV EV_ok (law8_z p h1 h2' h3 h4 h5 h6)
            · exact law8_y p h1 h2' h3 h4 h5 h6
  · exact fn_sound EV EV_ok (law8_s p (by simpa using h1))

end Go.Proofs.Ytjikokmhknnnoaa

/- Arguments of plain kinds. -/
namespace Go.Proofs.Ytjikokmhknnnoaa
open Go.ChangeShapes Go.WideShapes Go.ChangeAt Go.RowKit
section
variable {H : Type} {enc : TypeId × Value → H} {W : World} {base : Nat} {spare : Nat → Bool} {held : Bool} {r : Reach} {b0 : Nat} {v : Value} {d : DataW H} {p : List MemPlace}
set_option maxRecDepth 100000 in
theorem arg_u81 (hv : Value.okWide Try.prog W r b0 5 v) (h : DataW.Trod enc Try.prog W base spare held 5 v d p) : ∃ n : Int, val W (gW W) (.int .u8 n) v ∧ 0 ≤ n ∧ n ≤ 255 := by
 obtain ⟨n, rfl⟩ := okWide_int Try.underlying5 hv
 obtain ⟨m, hm⟩ := arg_one (_r := r) (_b0 := b0) (f := fun n : Int => D.int .u8 n) rfl h (fun _ => rfl) (fun hq => arg_u8 hq)
 refine ⟨m, hm, ?_⟩
 obtain ⟨cs, hr, _⟩ := hm
 cases hr with
 | int k n h => simp only [inr_u8] at h; exact h
theorem vals2 {w : World} {g : Gh} {d d' : D} {v v' : Value} (h : val w g d v) (h' : val w g d' v') : vals w g [d, d'] [v, v'] := ⟨rfl, fun j h1 h2 => by
 match j, h1, h2 with
 | 0, _, _ => exact h
 | 1, _, _ => exact h'
 | j + 2, h1, _ => simp at h1; omega⟩
end

end Go.Proofs.Ytjikokmhknnnoaa

/- For all programs the law ScopeUnused answers true, and they read behind the call as they did before. Conditions: none. -/
namespace Go.Proofs.Ytjikokmhknnnoaa
open Go.ChangeShapes Go.WideShapes Go.ChangeAt Go.RowKit

theorem vals1 {w : World} {g : Gh} {d : D} {v : Value} (h : val w g d v) : vals w g [d] [v] := ⟨rfl, fun j h1 h2 => by
  have : j = 0 := by simp at h1; omega
  subst this; exact h⟩
theorem law_callsP {P : Program} {k : Nat} {ds : List D} (h : PContract P k ds (.bool true)) {W : World} {vs : List Value} (hv : vals W (gW W) ds vs) : Calls P k vs.toArray W fun e w' => e = .returned (.bool true) ∧ Below W.heap.size W w' := by
  refine (h (gW W) vs W ⟨fun b o q => q, fun b q => q, fun _ _ q => q.elim⟩ hv).mono ?_
  rintro e w' ⟨v, g', rfl, hb, _, hd⟩
  rw [val_bool hd]
  exact ⟨rfl, hb⟩
set_option maxRecDepth 100000 in
theorem scopeUnused_lifted (os : Os) (started : os.Started) (H : Type) (enc : TypeId × Value → H) :
    ReturnsInHanded {} Try.checked os 6 .any (Rows.scopeUnusedSpec.pre6 enc Try.prog Try.f6 Rows.scopeUnusedRow.domain false) (Rows.scopeUnusedSpec.post enc Try.prog Try.f6 false true false false) := by
  refine returnsInHanded_of_change (C := Try.checked) prog_own started (by kernel_rfl) Try.func6
    (ChangeSpec.witness6 (enc := enc) (C := Try.checked) false ⟨#[], #[.agg #[.slice none 0 0, .slice none 0 0, .int .u8 0, .int .i64 0, .string ⟨#[]⟩, .slice none 0 0]], []⟩ 8 (by kernel_rfl) (by kernel_rfl) (by kernel_rfl) (by kernel_rfl)) ?_
  intro W base args ds gs before hval0 hW _ _
  have hval : ∀ (j : Nat) t v, Try.f6.params[j]? = some t → args[j]? = some v → Value.okWide Try.prog W .any base t v := hval0
  have hW' : DataW.Whole enc Try.prog Try.f6.params.toList Rows.scopeUnusedSpec.vars false W args.toList ds gs before := hW
  obtain ⟨p, q, hA0, hV, rfl, _, _⟩ := hW
  have hA : DataW.TrodAll enc Try.prog W 0 (fun _ => true) true Try.f6.params.toList args.toList ds p := hA0
  rw [Try.params6] at hA hval
  obtain ⟨v0, d0, rfl, rfl, h0⟩ := trodAll_one hA
  obtain ⟨g0, hg0⟩ := arg_agg Try.underlying30 (hval 0 30 v0 rfl rfl) h0 (fun x => rfl) (fun fuel => arg_prog fuel)
  refine (law_callsP (law8_any g0) (vals1 hg0)).mono fun e W' ⟨he, hb⟩ => ?_
  subst he
  exact ⟨_, rfl, law_post hW' rfl rfl (by rw [Try.params6]; intro t ht; simp at ht; subst ht; exact ⟨by kernel_rfl, of_decide_eq_true (by kernel_rfl)⟩) rfl hb⟩

theorem scopeUnused_holds : Rows.ScopeUnusedSaid :=
  OpenClaim.holds_of_wide 6 Try.f6 rfl rfl rfl rfl rfl rfl rfl ⟨rfl, rfl, rfl, rfl, rfl⟩ rfl rfl rfl rfl rfl (by kernel_rfl) Try.func6 (by kernel_rfl)
    (of_decide_eq_true (by kernel_rfl)) (by unfold Func.isWrapper; first | (rw [if_pos (by decide +kernel)]; kernel_rfl) | (rw [if_neg (by decide +kernel)]; exact ⟨rfl, rfl⟩))
    (fun os started H enc _ => scopeUnused_lifted os started H enc)

end Go.Proofs.Ytjikokmhknnnoaa
