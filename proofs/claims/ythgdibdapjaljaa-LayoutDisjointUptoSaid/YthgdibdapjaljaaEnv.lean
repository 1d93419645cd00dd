import Derived.Test.YthgdibdapjaljaaBI
import Derived.Test.YthgdibdapjaljaaBG
/- The environment of the machine: which functions it runs, which contracts it is handed. -/
namespace Go.Proofs.Ythgdibdapjaljaa
open Go.RowKit

def orcV : List (Nat × (List D → Option D)) := (47, orcN fun t => if t.size ≤ 1000000 then some (dN t) else none) :: (23, orcN fun t => if t.size ≤ 1000000 then some (.it (walkD t)) else none) :: orcB
theorem orcV_fit : ∀ x ∈ orcV, Fit Try.prog x.1 x.2 := by
 intro x hx
 rcases List.mem_cons.1 hx with rfl | hx
 ·exact fit_makes clone_any
 rcases List.mem_cons.1 hx with rfl | hx
 ·exact fit_walk
 ·exact orcB_fit x hx
def fsL : List Nat := [3, 4, 5, 6, 7, 8, 9, 10, 11, 12, 13, 14, 15, 17, 18, 19, 20, 21, 25, 26, 27, 28, 29, 30, 31, 33, 34, 35, 36, 37, 39, 40, 41, 42, 43, 44, 45, 46, 50, 51, 52, 53, 54, 55, 58, 59, 60, 61, 63, 64, 65, 66, 67, 68, 69, 70, 71, 72, 73, 74, 75, 76, 77, 78, 79, 80, 81, 82, 83, 85, 86, 87, 91, 96, 97, 98, 99, 101, 102, 103, 104, 106]
noncomputable def EV0 : Env := ⟨Try.prog, fun k => fsL.contains k, lookT orcV⟩
theorem EV0_ok : EV0.Ok where
 mixed := by show Try.prog.follows .mixedOrders = true; kernel_rfl
 chk := fnOk_chk (P := Try.prog) (l := fsL) (by kernel_rfl)
 orc := look_fit (P := Try.prog) orcV_fit
/-- a copy of an empty slice -/
def orcE (args : List D) : Option D := match args with
 | [.slice .imm 0 []] => some (.slice .imm 0 [])
 | _ => none
theorem orcE_fit {k : Nat} (h : PContract Try.prog k [.slice .imm 0 []] (.slice .imm 0 [])) : Fit Try.prog k orcE := by
 intro args d hd
 unfold orcE at hd
 split at hd
 ·cases hd; exact ⟨rfl, rfl, h⟩
 ·cases hd
def orcX : List (Nat × (List D → Option D)) := [(50, orcE), (41, orcE)] ++ orcV
theorem orcX_fit : ∀ x ∈ orcX, Fit Try.prog x.1 x.2 := by
 intro x hx
 rcases List.mem_append.1 hx with hx | hx
 ·simp only [List.mem_cons, List.not_mem_nil, or_false] at hx
  rcases hx with rfl | rfl
  ·exact orcE_fit (pure_split2 (E := EV0) (n := 20) EV0_ok (by kernel_rfl) (by kernel_rfl))
  ·exact orcE_fit (pure_split2 (E := EV0) (n := 20) EV0_ok (by kernel_rfl) (by kernel_rfl))
 ·exact orcV_fit x hx
noncomputable def EV : Env := ⟨Try.prog, fun k => fsL.contains k, lookT orcX⟩
theorem EVP : EV.P = Try.prog := rfl
theorem EV_ok : EV.Ok where
 mixed := EV0_ok.mixed
 chk := EV0_ok.chk
 orc := look_fit (P := Try.prog) orcX_fit
theorem f_node {k : Nat} {f : Tr → Option D} {t : Tr} {d : D} (h : ∀ x, EV.orc k [x] = orcN f [x]) (hd : f t = some d) : fn EV k [dN t] = some d := by
 refine fn_orc EV (by simp [plain, dN_under, dN_good]) ?_
 simp only [zmc, zmn, dN_strip]
 rw [h]
 simp only [orcN, toTr_of, zbs, hd]
theorem dN_agg (t : Tr) : D.agg [.int .u8 t.kind, .int .i64 t.num, .str t.name, .slice .imm (if (t.kids.map dN).isEmpty = true then 0 else 4) (t.kids.map dN)] = dN t := (dN_eq t).symm
theorem o_ast_IsBlock (t : Tr) : fn EV 16 [dN t] = some (.bool (blockB t)) := f_node (f := fun t => some (.bool (blockB t))) (fun _ => rfl) rfl
theorem o_ast_Size (t : Tr) (h : t.size ≤ 4611686018427387904) : fn EV 22 [dN t] = some (.int .i64 t.size) := f_node (f := fun t => if t.size ≤ 4611686018427387904 then some (.int .i64 t.size) else none) (fun _ => rfl) (if_pos h)
theorem o_ast_Walk (t : Tr) (h : t.size ≤ 1000000) : fn EV 23 [dN t] = some (.it (walkD t)) := f_node (f := fun t => if t.size ≤ 1000000 then some (.it (walkD t)) else none) (fun _ => rfl) (if_pos h)
theorem any10 : (Try.prog.funcs[10]?).any (fun fn => fn.body.isSome && fn.name != "runtime.NumGoroutine") = true := by kernel_rfl
theorem any11 : (Try.prog.funcs[11]?).any (fun fn => fn.body.isSome && fn.name != "runtime.NumGoroutine") = true := by kernel_rfl
theorem any14 : (Try.prog.funcs[14]?).any (fun fn => fn.body.isSome && fn.name != "runtime.NumGoroutine") = true := by kernel_rfl
theorem any16 : (Try.prog.funcs[16]?).any (fun fn => fn.body.isSome && fn.name != "runtime.NumGoroutine") = true := by kernel_rfl
theorem any22 : (Try.prog.funcs[22]?).any (fun fn => fn.body.isSome && fn.name != "runtime.NumGoroutine") = true := by kernel_rfl
theorem any23 : (Try.prog.funcs[23]?).any (fun fn => fn.body.isSome && fn.name != "runtime.NumGoroutine") = true := by kernel_rfl
theorem any26 : (Try.prog.funcs[26]?).any (fun fn => fn.body.isSome && fn.name != "runtime.NumGoroutine") = true := by kernel_rfl
theorem any27 : (Try.prog.funcs[27]?).any (fun fn => fn.body.isSome && fn.name != "runtime.NumGoroutine") = true := by kernel_rfl
theorem any28 : (Try.prog.funcs[28]?).any (fun fn => fn.body.isSome && fn.name != "runtime.NumGoroutine") = true := by kernel_rfl
theorem any29 : (Try.prog.funcs[29]?).any (fun fn => fn.body.isSome && fn.name != "runtime.NumGoroutine") = true := by kernel_rfl
theorem any41 : (Try.prog.funcs[41]?).any (fun fn => fn.body.isSome && fn.name != "runtime.NumGoroutine") = true := by kernel_rfl
theorem any53 : (Try.prog.funcs[53]?).any (fun fn => fn.body.isSome && fn.name != "runtime.NumGoroutine") = true := by kernel_rfl
theorem any54 : (Try.prog.funcs[54]?).any (fun fn => fn.body.isSome && fn.name != "runtime.NumGoroutine") = true := by kernel_rfl
end Go.Proofs.Ythgdibdapjaljaa
