/- The law EffectsCalls: its walk. -/
import Derived.Test.YtkkhjpkkjpcbmaaG8
namespace Go.Proofs.Ytkkhjpkkjpcbmaa
open Go.RowKit

def RecC : Nat → List D → D → Prop := fun k a d => k = 28 ∧ ∃ p q, Sml p ∧ a = [dG p, .int .i64 q] ∧ d = .bool (recF p q)
/-- the environment with the reference's Recursive, too -/
noncomputable def EVh : Env := EVg.by RecC
theorem EVhP : EVh.P = Try.prog := rfl
theorem EVh_ok : EVh.Ok := by_ok EVg_ok fun k a d ⟨hk, p, q, ho, ha, hd⟩ => by
 subst hk ha hd
 exact ⟨rfl, rfl, rrec_any p ho q⟩
theorem orc_g (a : List D) : EVg.orc 28 a = none := by
 have h0 : EVe.orc 28 a = none := rfl
 unfold EVg Env.by Env.more
 dsimp only
 rw [h0]
 dsimp only
 split
 ·rfl
 ·rw [dif_neg (fun ⟨d, hk, _⟩ => absurd hk (by decide))]
theorem rrec_h (p : Pg) (ho : Sml p) (q : Int) : fn EVh 28 [dG p, .int .i64 q] = some (.bool (recF p q)) := by
 refine by_fn (by simp only [plain, List.all_cons, List.all_nil, dG_pl, int_pl, Bool.and_true]) (by simp only [zmc, zmn, dG_strip]; rfl) (orc_g _) rfl ⟨rfl, p, q, ho, rfl, rfl⟩ ?_
 rintro d' ⟨_, p', q', _, ha, rfl⟩
 simp only [List.cons.injEq, and_true, D.int.injEq, true_and] at ha
 rw [dG_inj ha.1, ha.2]
theorem awake_h : fn EVh 11 [] = some (.bool true) := by_up awake_g
theorem all_h (p : Pg) : fn EVh 24 [dG p] = some (.bool (smallP p)) := by_up (all_g p)
theorem calls_h (p : Pg) (ho : Sml p) (q : Int) : fn EVh 25 [dG p, .int .i64 q] = some (sl 1 ((clF p q).map dI)) := by_up (calls_fn p ho q)
theorem rcalls_h (p : Pg) (ho : Sml p) (q : Int) : fn EVh 26 [dG p, .int .i64 q] = some (sl 1 ((clF p q).map dI)) := by
 rw [calls_same]; exact by_up (by_up (fn_more (rcalls_fn p ho q)))
theorem rec_h (p : Pg) (ho : Sml p) (q : Int) : fn EVh 27 [dG p, .int .i64 q] = some (.bool (recF p q)) := by_up (rec_fn p ho q)
set_option maxRecDepth 100000 in
set_option maxHeartbeats 4000000 in
theorem lawCalls_0 (p : Pg) (q : Int) (ha : smallP p = false) : fn EVh 9 [dG p, .int .i64 q] = some (.bool true) := by
 refine fn_X rfl Try.func9 rfl (by simp only [plain, List.all_cons, List.all_nil, dG_pl, int_pl, Bool.and_true]) (rfl) (rfl) (rfl) ?_
 simp only [zmc, zmn, D.strip, dG_strip]
 simp only [enterSt, Try.ntmps9, zlc, zln, Nat.reduceAdd, Nat.reduceSub, zr1, zr0, zca, zna]
 refine X_seq ?_
 refine X_rg fun R hR => ?_
 simp only [aops, astep, awant, aeff, aop, ev, ofValue, St.put, zg0, zgd, zmo, if_true, zs1, zs0, zln, zna, dG_cells, dG_good]
 with_reducible refine hR _ ?_
 clear hR R
 show X _ _ _ _
 refine X_seq ?_
 refine X_seq ?_
 have hA := all_h p
 rw [ha] at hA
 refine X_rg fun R hR => ?_
 simp only [EVhP, aops, astep, awant, aeff, aop, mkD, ev, ofValue, St.put, pcall, zmc, zmn, zg1, zg0, zgd, zmo, zbs, if_true, zs1, zs0, zlc, zln, zd0, zt1, zt0, zca, zna, Nat.reduceAdd, Nat.reduceLeDiff, Nat.zero_add, Bool.not_true, Bool.not_false, zft, if_false, beq_self_eq_true, ty_api_Program, any11, any24, dG_agg, awake_h, hA]
 with_reducible refine hR _ ?_
 clear hR R
 show X _ _ _ _
 refine X_true (by simp only [ev, zg1, zg0, zgd]) ?_
 refine X_seq ?_
 refine X_rg fun R hR => ?_
 simp only [EVhP, aops, astep, awant, aeff, aop, ev, St.put, pcall, zmn, zg1, zg0, zgd, zmo, if_true, zs1, zs0, zna, any11, awake_h]
 with_reducible refine hR _ ?_
 clear hR R
 show X _ _ _ _
 refine X_ret ?_
 show resD _ _ _ = some _
 simp only [resD, resAll, resOne, resTup, Try.results9, EVhP, zg1, zg0, D.good, if_true, zmo] <;> (first | (rfl; done) | (simp_all; done) | (exfalso; simp_all; done))
set_option maxRecDepth 100000 in
set_option maxHeartbeats 4000000 in
theorem lawCalls_1 (p : Pg) (q : Int) (ha : smallP p = true) : fn EVh 9 [dG p, .int .i64 q] = some (.bool true) := by
 refine fn_X rfl Try.func9 rfl (by simp only [plain, List.all_cons, List.all_nil, dG_pl, int_pl, Bool.and_true]) (rfl) (rfl) (rfl) ?_
 simp only [zmc, zmn, D.strip, dG_strip]
 simp only [enterSt, Try.ntmps9, zlc, zln, Nat.reduceAdd, Nat.reduceSub, zr1, zr0, zca, zna]
 refine X_seq ?_
 refine X_rg fun R hR => ?_
 simp only [aops, astep, awant, aeff, aop, ev, ofValue, St.put, zg0, zgd, zmo, if_true, zs1, zs0, zln, zna, dG_cells, dG_good]
 with_reducible refine hR _ ?_
 clear hR R
 show X _ _ _ _
 refine X_seq ?_
 refine X_seq ?_
 have hA := all_h p
 rw [ha] at hA
 refine X_rg fun R hR => ?_
 simp only [EVhP, aops, astep, awant, aeff, aop, mkD, ev, ofValue, St.put, pcall, zmc, zmn, zg1, zg0, zgd, zmo, zbs, if_true, zs1, zs0, zlc, zln, zd0, zt1, zt0, zca, zna, Nat.reduceAdd, Nat.reduceLeDiff, Nat.zero_add, Bool.not_true, zft, if_false, beq_self_eq_true, ty_api_Program, any11, any24, dG_agg, awake_h, hA]
 with_reducible refine hR _ ?_
 clear hR R
 show X _ _ _ _
 refine X_false (by simp only [ev, zg1, zg0, zgd]) ?_
 refine X_skip ?_
 show X _ _ _ _
 refine X_seq ?_
 have hs := (all_sml ha).1
 have f1 := calls_h p hs q
 have f2 := rcalls_h p hs q
 simp only [sl] at f1 f2
 refine X_rg fun R hR => ?_
 simp only [EVhP, aops, astep, awant, aeff, aop, mkD, ev, St.put, pcall, zmc, zmn, zg1, zg0, zgd, zmo, if_true, zs1, zs0, zlc, zln, zd0, zt1, zt0, zca, zna, Nat.reduceAdd, Nat.reduceLeDiff, Nat.zero_add, ty_api_Program, any25, any26, dG_agg, f1, f2]
 with_reducible refine hR _ ?_
 clear hR R
 show X _ _ _ _
 refine X_seq ?_
 refine X_seq ?_
 have f3 := rec_h p hs q
 have f4 := rrec_h p hs q
 have hbb : ∀ b : Bool, (!(b == b)) = false := fun b => by cases b <;> rfl
 have hbi : ∀ b : Int, (!(b == b)) = false := fun b => by simp
 refine X_rg fun R hR => ?_
 simp only [EVhP, aops, astep, awant, aeff, aop, abin, aint, mkD, ev, ofValue, St.put, pcall, zmc, zmn, zg1, zg0, zgd, zmo, zbs, if_true, zs1, zs0, zlm, zlc, zln, zd0, zt1, zt0, zca, zna, Nat.reduceAdd, Nat.reduceLeDiff, Nat.zero_add, Bool.not_true, zft, if_false, beq_self_eq_true, bne_self_eq_false, ty_api_Program, und_int, und_bool', any27, any28, dG_agg, f3, f4, bne_self_eq_false]
 with_reducible refine hR _ ?_
 clear hR R
 show X _ _ _ _
 refine X_false (by simp only [ev, zg1, zg0, zgd]) ?_
 refine X_skip ?_
 show X _ _ _ _
 refine X_seq ?_
 refine X_seq ?_
 refine X_rg fun R hR => ?_
 simp only [EVhP, inr_i64, Int.reduceLE, Int.reduceNeg, aops, astep, awant, aeff, aop, ev, ofValue, St.put, zg1, zg0, zgd, zmo, if_true, zs1, zs0, zlm, and_self, und_int]
 with_reducible refine hR _ ?_
 clear hR R
 show X _ _ _ _
 refine X_block ?_
 refine X_loop (fun m σ => ∃ (i : Nat), σ = ⟨[slotOf σ 0, slotOf σ 1, slotOf σ 2, slotOf σ 3, slotOf σ 4, .slice .imm (if ((clF p q).map dI).isEmpty = true then 0 else 1) ((clF p q).map dI), .slice .imm (if ((clF p q).map dI).isEmpty = true then 0 else 1) ((clF p q).map dI), slotOf σ 7, slotOf σ 8, slotOf σ 9, slotOf σ 10, slotOf σ 11, slotOf σ 12, slotOf σ 13, slotOf σ 14, slotOf σ 15, slotOf σ 16, slotOf σ 17, slotOf σ 18, slotOf σ 19, slotOf σ 20, slotOf σ 21, slotOf σ 22, slotOf σ 23, slotOf σ 24, slotOf σ 25, slotOf σ 26, slotOf σ 27, slotOf σ 28, slotOf σ 29, slotOf σ 30, slotOf σ 31, slotOf σ 32, slotOf σ 33, slotOf σ 34, slotOf σ 35, slotOf σ 36, .int .i64 (clF p q).length, .int .i64 i, slotOf σ 39, slotOf σ 40, slotOf σ 41, slotOf σ 42, slotOf σ 43, slotOf σ 44, slotOf σ 45, slotOf σ 46, slotOf σ 47, slotOf σ 48, slotOf σ 49, slotOf σ 50], [[.slice .imm (if (p.vars.map dV).isEmpty = true then 0 else 3) (p.vars.map dV), .slice .imm (if (p.procs.map dP).isEmpty = true then 0 else 6) (p.procs.map dP), .int .u8 p.main.kind, .int .i64 p.main.num, .str p.main.name, .slice .imm (if (p.main.kids.map dN).isEmpty = true then 0 else 4) (p.main.kids.map dN)]], 0, []⟩ ∧ m = (clF p q).length - i ∧ i ≤ (clF p q).length) ?_ ((clF p q).length) _ ?_
 rotate_left
 ·exact ⟨0, rfl, rfl, Nat.zero_le _⟩
 rintro m σ ⟨i, hσ, rfl, hi⟩
 generalize slotOf σ = x at hσ
 subst hσ
 refine X_seq ?_
 refine X_rg fun R hR => ?_
 simp only [nat_lt, aops, astep, awant, aeff, aop, abin, aint, ev, St.put, zg1, zg0, zgd, zmo, if_true, zs1, zs0]
 with_reducible refine hR _ ?_
 clear hR R
 show X _ _ _ _
 refine X_seq ?_
 refine X_ite (by simp only [ev, zg1, zg0, zgd]; exact rfl) ?_ ?_
 ·intro b1
  have c1 := b1
  try simp only [decide_eq_true_eq] at c1
  refine X_skip ?_
  show X _ _ _ _
  refine X_seq ?_
  refine X_block ?_
  refine X_seq ?_
  refine X_rg fun R hR => ?_
  simp only [aops, astep, awant, aeff, aop, ev, St.put, zg1, zg0, zgd, zmo, if_true, zs1, zs0, b1]
  with_reducible refine hR _ ?_
  clear hR R
  show X _ _ _ _
  refine X_seq ?_
  have hlt : i < (clF p q).length := by first | assumption | omega | simp_all
  have hn1 := idx_n (f := dI) (n := 1) hlt
  have e1 : ((clF p q).map dI)[i]? = some (.int .i64 (clF p q)[i]) := by rw [List.getElem?_map, List.getElem?_eq_getElem hlt]; rfl
  refine X_rg fun R hR => ?_
  simp only [EVhP, nat_lt, nat_0, nat_to, aops, astep, awant, aeff, aop, abin, aint, ev, St.put, ia_int, cl_int, zg1, zg0, zgd, zmo, if_true, zs1, zs0, zlm, zlc, zln, Nat.zero_add, and_self, bne_self_eq_false, zis, ty_int, und_int, siz_int, inf_int_eq, hlt, hn1, e1, bne_self_eq_false]
  with_reducible refine hR _ ?_
  clear hR R
  show X _ _ _ _
  refine X_false (by simp only [ev, zg1, zg0, zgd]) ?_
  refine X_skip ?_
  show X _ _ _ _
  have hcl := clF_len p q
  have hpn := hs.n
  have hbig : i < 9223372036854775807 := by omega
  refine X_rg fun R hR => ?_
  simp only [inr_i64, Int.reduceLE, Int.reduceNeg, aops, astep, awant, aeff, aop, abin, aint, ev, ofValue, St.put, zg1, zg0, zgd, zmo, if_true, zs1, zs0, and_self, nat_succ hbig]
  with_reducible refine hR _ ?_
  clear hR R
  show ∃ m, m < _ ∧ _
  exact ⟨(clF p q).length - (i + 1), by omega, i + 1, rfl, rfl, by omega⟩
 ·intro b2
  have c2 := b2
  try simp only [decide_eq_false_iff_not] at c2
  refine X_exit ?_
  show X _ _ _ _
  refine X_seq ?_
  refine X_rg fun R hR => ?_
  simp only [aops, astep, awant, aeff, aop, ev, ofValue, St.put, zgd, zmo, if_true, zs1, zs0, b2]
  with_reducible refine hR _ ?_
  clear hR R
  show X _ _ _ _
  refine X_ret ?_
  show resD _ _ _ = some _
  simp only [resD, resAll, resOne, resTup, Try.results9, EVhP, zg1, zg0, D.good, if_true, zmo] <;> (first | (rfl; done) | (simp_all; done) | (exfalso; simp_all; done))
theorem lawCalls_fn (p : Pg) (q : Int) : fn EVh 9 [dG p, .int .i64 q] = some (.bool true) := by
 cases ha : smallP p with
 | false => exact lawCalls_0 p q ha
 | true => exact lawCalls_1 p q ha

end Go.Proofs.Ytkkhjpkkjpcbmaa
