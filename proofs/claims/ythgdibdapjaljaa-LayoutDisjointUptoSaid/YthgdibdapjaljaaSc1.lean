/- The layer scope over data: small functions. -/
import Derived.Test.YthgdibdapjaljaaFi
namespace Go.Proofs.Ythgdibdapjaljaa
open Go.RowKit

theorem ty_api_Errno : tyOf Try.prog 39 = some { sz := 1, agg := false, flds := [], elem := none, zero := some [.int .i64 0], bytes := 8 } := by kernel_rfl
theorem dV_cells (v : Vd) : (dV v).cells = [.str v.name, .int .u8 v.kind, .int .i64 v.len] := rfl
theorem dV_good (v : Vd) : (dV v).good = true := rfl
theorem sl_pl {α : Type} {f : α → D} (h : ∀ m x, (f x).under m = true) (n : Nat) (l : List α) : ((sl n (l.map f)).under 0 && (sl n (l.map f)).good) = true := by
 rw [sl_under (map_under (h 0) l)]; rfl
theorem str_pl (s : ByteArray) : ((D.str s).under 0 && (D.str s).good) = true := rfl
theorem int_pl (k : IntKind) (n : Int) : ((D.int k n).under 0 && (D.int k n).good) = true := rfl
theorem dN_pl (t : Tr) : ((dN t).under 0 && (dN t).good) = true := by rw [dN_under, dN_good]; rfl
theorem sl_ne {α : Type} {f : α → D} {l : List α} (h : l.length ≠ 0) : ((l.map f) = []) = False := by
 cases l with
 | nil => exact absurd rfl h
 | cons a r => simp
theorem strips_id {α : Type} {f : α → D} (h : ∀ x, (f x).strip = f x) (l : List α) : D.strips (l.map f) = l.map f := by
 rw [D.strips_map, List.map_map]; exact List.map_congr_left fun x _ => h x
theorem unders_id {α : Type} {f : α → D} (h : ∀ m x, (f x).under m = true) (m : Nat) (l : List α) : D.unders m (l.map f) = true := by
 rw [D.unders_all, List.all_eq_true]; intro x hx; obtain ⟨y, _, rfl⟩ := List.mem_map.1 hx; exact h m y
set_option maxRecDepth 100000 in
set_option maxHeartbeats 4000000 in
theorem cloneI_fn1 (l : List Int) (h0 : l.length ≠ 0) (hl : l.length ≤ 1000000) : fn EV 41 [sl 1 (l.map dI)] = some (sl 1 (l.map dI)) := by
 have hn : (if (l.map dI).isEmpty = true then 0 else 1) = 1 := sl_n (j := 0) (by simp; omega)
 refine fn_Xs rfl Try.func41 rfl (by simp only [plain, List.all_cons, List.all_nil, sl_pl (f := dI) (fun _ _ => rfl), Bool.and_true]) (by cases l with | nil => exact absurd rfl h0 | cons a r => rfl) ?_
 simp only [zmc, zmn, sl_strip (map_strip (f := dI) (fun _ => rfl) _)]
 simp only [enterSt, Try.ntmps41, zlc, zln, Nat.reduceAdd, Nat.reduceSub, zr1, zr0, zca, zna]
 refine X_seq ?_
 refine X_rg fun R hR => ?_
 simp only [aops, astep, awant, aeff, aop, ev, ofValue, St.put, zgd, zmo, if_true, zs1, zs0, sl]
 with_reducible refine hR _ ?_
 clear hR R
 show X _ _ _ _
 refine X_seq ?_
 refine X_seq ?_
 refine X_rg fun R hR => ?_
 simp only [EVP, aops, astep, awant, aeff, aop, abin, ev, ofValue, St.put, zg1, zg0, zgd, zmo, if_true, zs1, zs0, if_false, reduceCtorEq, und_int, sl_ne h0]
 with_reducible refine hR _ ?_
 clear hR R
 show X _ _ _ _
 refine X_false (by simp only [ev, zg1, zg0, zgd]) ?_
 refine X_skip ?_
 show X _ _ _ _
 refine X_seq ?_
 have hap := fun fr => Acc.app (P := Try.prog) (σ := ⟨fr, [], 1, [0]⟩) (t := 67) (e := 3) (o := .own 0 3) (n := 1) (L := []) (o2 := .imm) (l2 := l.map dI) (.own (by simp)) und_int inf_int_eq inf_int_size (by omega) (by rw [inf_int_bytes]; omega) inf_int_zc (by simp; omega) (by rw [ne_eq, sl_ne h0]; simp)
 refine X_rg fun R hR => ?_
 simp only [EVP, aops, astep, awant, aeff, aop, abuild, ev, ofValue, St.put, zmn, zg1, zg0, zgd, zmo, if_true, zs1, zs0, zna, Nat.reduceAdd, Nat.reduceLeDiff, Nat.reduceLT, Nat.zero_add, and_self, List.all_nil, Nat.reduceMul, rng_0, und_int, inf_int_eq, inf_int_size, inf_int_zero, hap, hn]
 with_reducible refine hR _ ?_
 clear hR R
 show X _ _ _ _
 refine X_ret ?_
 show ∃ d, resD _ _ _ = some d ∧ _ ∧ _
 simp only [resD, resAll, resOne, resTup, Try.results41, EVP, zg1, zg0, D.good, if_true, zmo]
 refine ⟨_, rfl, ?_, ?_⟩
 ·simp only [D.under, unders_id (f := dI) (fun _ _ => rfl)]
 ·simp only [D.strip, strips_id (f := dI) (fun _ => rfl), Own.st, sl, hn]
theorem cloneI_fn (l : List Int) (hl : l.length ≤ 1000000) : fn EV 41 [sl 1 (l.map dI)] = some (sl 1 (l.map dI)) := by
 by_cases h0 : l.length = 0
 ·rw [List.length_eq_zero_iff] at h0
  subst h0
  exact fn_orc EV rfl rfl
 ·exact cloneI_fn1 l h0 hl
def cl (n : Nat) (l : List D) : D := .slice .clip (if l.isEmpty = true then 0 else n) l
end Go.Proofs.Ythgdibdapjaljaa
