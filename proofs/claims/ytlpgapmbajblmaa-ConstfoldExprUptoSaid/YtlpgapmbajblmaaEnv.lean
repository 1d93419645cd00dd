import Derived.Test.YtlpgapmbajblmaaBI
import Derived.Test.YtlpgapmbajblmaaBG
/- The environment of the machine: which functions it runs, which contracts it is handed. -/
namespace Go.Proofs.Ytlpgapmbajblmaa
open Go.RowKit

def orcV : List (Nat × (List D → Option D)) := (40, orcN fun t => if t.size ≤ 1000000 then some (dN t) else none) :: (28, orcN fun t => if t.size ≤ 1000000 then some (.it (walkD t)) else none) :: orcB
theorem orcV_fit : ∀ x ∈ orcV, Fit Try.prog x.1 x.2 := by
 intro x hx
 rcases List.mem_cons.1 hx with rfl | hx
 ·exact fit_makes clone_any
 rcases List.mem_cons.1 hx with rfl | hx
 ·exact fit_walk
 ·exact orcB_fit x hx
def fsL : List Nat := [3, 4, 5, 6, 7, 8, 9, 10, 11, 13, 14, 15, 16, 19, 21, 22, 23, 24, 29, 30, 32, 33, 34, 36, 37, 38, 39, 41, 43, 44, 45, 46, 47, 48, 51, 52, 53, 54, 55, 56, 57, 58, 59, 61, 62, 63, 64, 65, 66, 67, 68, 69, 70, 71, 72, 73, 74, 75, 76, 77, 79, 81, 82, 83, 84, 85, 89, 90, 91, 92, 93, 94, 95, 96, 98, 99, 100, 101, 102, 104, 105, 107, 108, 110, 111]
noncomputable def EV0 : Env := ⟨Try.prog, fun k => fsL.contains k, lookT orcV⟩
theorem EV0_ok : EV0.Ok where
 mixed := by show Try.prog.follows .mixedOrders = true; kernel_rfl
 chk := fnOk_chk (P := Try.prog) (l := fsL) (by kernel_rfl)
 orc := look_fit (P := Try.prog) orcV_fit
/-- a copy of an empty slice -/
def orcE (args : List D) : Option D := match args with
 | [.slice .imm 0 []] => some (.slice .imm 0 [])
 | _ => none
theorem orcE_fit {k : Nat} (h : PContract Try.prog k [.slice .imm 0 []] (.slice .imm 0 [])) : Fit Try.prog k orcE := by
 intro args d hd
 unfold orcE at hd
 split at hd
 ·cases hd; exact ⟨rfl, rfl, h⟩
 ·cases hd
def orcX : List (Nat × (List D → Option D)) := [(51, orcE), (54, orcE)] ++ orcV
theorem orcX_fit : ∀ x ∈ orcX, Fit Try.prog x.1 x.2 := by
 intro x hx
 rcases List.mem_append.1 hx with hx | hx
 ·simp only [List.mem_cons, List.not_mem_nil, or_false] at hx
  rcases hx with rfl | rfl
  ·exact orcE_fit (pure_split2 (E := EV0) (n := 20) EV0_ok (by kernel_rfl) (by kernel_rfl))
  ·exact orcE_fit (pure_split2 (E := EV0) (n := 20) EV0_ok (by kernel_rfl) (by kernel_rfl))
 ·exact orcV_fit x hx
noncomputable def EV : Env := ⟨Try.prog, fun k => fsL.contains k, lookT orcX⟩
theorem EVP : EV.P = Try.prog := rfl
theorem EV_ok : EV.Ok where
 mixed := EV0_ok.mixed
 chk := EV0_ok.chk
 orc := look_fit (P := Try.prog) orcX_fit
theorem f_node {k : Nat} {f : Tr → Option D} {t : Tr} {d : D} (h : ∀ x, EV.orc k [x] = orcN f [x]) (hd : f t = some d) : fn EV k [dN t] = some d := by
 refine fn_orc EV (by simp [plain, dN_under, dN_good]) ?_
 simp only [zmc, zmn, dN_strip]
 rw [h]
 simp only [orcN, toTr_of, zbs, hd]
theorem dN_agg (t : Tr) : D.agg [.int .u8 t.kind, .int .i64 t.num, .str t.name, .slice .imm (if (t.kids.map dN).isEmpty = true then 0 else 4) (t.kids.map dN)] = dN t := (dN_eq t).symm
theorem o_backstepref03_Expr (t : Tr) : fn EV 20 [dN t] = some (.bool (exprB t)) := f_node (f := fun t => some (.bool (exprB t))) (fun _ => rfl) rfl
theorem any14 : (Try.prog.funcs[14]?).any (fun fn => fn.body.isSome && fn.name != "runtime.NumGoroutine") = true := by kernel_rfl
theorem any20 : (Try.prog.funcs[20]?).any (fun fn => fn.body.isSome && fn.name != "runtime.NumGoroutine") = true := by kernel_rfl
theorem any21 : (Try.prog.funcs[21]?).any (fun fn => fn.body.isSome && fn.name != "runtime.NumGoroutine") = true := by kernel_rfl
theorem any39 : (Try.prog.funcs[39]?).any (fun fn => fn.body.isSome && fn.name != "runtime.NumGoroutine") = true := by kernel_rfl
theorem any41 : (Try.prog.funcs[41]?).any (fun fn => fn.body.isSome && fn.name != "runtime.NumGoroutine") = true := by kernel_rfl
theorem any43 : (Try.prog.funcs[43]?).any (fun fn => fn.body.isSome && fn.name != "runtime.NumGoroutine") = true := by kernel_rfl
theorem any44 : (Try.prog.funcs[44]?).any (fun fn => fn.body.isSome && fn.name != "runtime.NumGoroutine") = true := by kernel_rfl
theorem any67 : (Try.prog.funcs[67]?).any (fun fn => fn.body.isSome && fn.name != "runtime.NumGoroutine") = true := by kernel_rfl
theorem any69 : (Try.prog.funcs[69]?).any (fun fn => fn.body.isSome && fn.name != "runtime.NumGoroutine") = true := by kernel_rfl
theorem any70 : (Try.prog.funcs[70]?).any (fun fn => fn.body.isSome && fn.name != "runtime.NumGoroutine") = true := by kernel_rfl
theorem any72 : (Try.prog.funcs[72]?).any (fun fn => fn.body.isSome && fn.name != "runtime.NumGoroutine") = true := by kernel_rfl
theorem any81 : (Try.prog.funcs[81]?).any (fun fn => fn.body.isSome && fn.name != "runtime.NumGoroutine") = true := by kernel_rfl
theorem any82 : (Try.prog.funcs[82]?).any (fun fn => fn.body.isSome && fn.name != "runtime.NumGoroutine") = true := by kernel_rfl
theorem any98 : (Try.prog.funcs[98]?).any (fun fn => fn.body.isSome && fn.name != "runtime.NumGoroutine") = true := by kernel_rfl
theorem any99 : (Try.prog.funcs[99]?).any (fun fn => fn.body.isSome && fn.name != "runtime.NumGoroutine") = true := by kernel_rfl
end Go.Proofs.Ytlpgapmbajblmaa
