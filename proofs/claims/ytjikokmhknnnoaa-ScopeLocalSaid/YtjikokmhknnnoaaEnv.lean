import Derived.Test.YtjikokmhknnnoaaBI
import Derived.Test.YtjikokmhknnnoaaBG
/- The environment of the machine: which functions it runs, which contracts it is handed. -/
namespace Go.Proofs.Ytjikokmhknnnoaa
open Go.RowKit

def orcV : List (Nat × (List D → Option D)) := orcB
theorem orcV_fit : ∀ x ∈ orcV, Fit Try.prog x.1 x.2 := by
 intro x hx
 exact orcB_fit x hx
def fsL : List Nat := [3, 4, 5, 6, 7, 8, 9, 10, 11, 12, 13, 14, 15, 16, 17, 18, 19, 20, 21, 22, 23, 24, 25, 26, 27, 28, 29, 30, 31, 32, 34, 35, 37, 38, 39, 40, 41, 43, 44, 45, 46, 47, 48, 49, 51, 52, 53, 54, 55, 56, 57, 59, 61, 62, 63, 64, 65, 66, 67, 68, 69, 70, 71, 72, 73, 74, 75, 76, 78, 79, 80, 81, 82, 83, 86, 87, 88, 89]
noncomputable def EV0 : Env := ⟨Try.prog, fun k => fsL.contains k, lookT orcV⟩
theorem EV0_ok : EV0.Ok where
 mixed := by show Try.prog.follows .mixedOrders = true; kernel_rfl
 chk := fnOk_chk (P := Try.prog) (l := fsL) (by kernel_rfl)
 orc := look_fit (P := Try.prog) orcV_fit
/-- a copy of an empty slice -/
def orcE (args : List D) : Option D := match args with
 | [.slice .imm 0 []] => some (.slice .imm 0 [])
 | _ => none
theorem orcE_fit {k : Nat} (h : PContract Try.prog k [.slice .imm 0 []] (.slice .imm 0 [])) : Fit Try.prog k orcE := by
 intro args d hd
 unfold orcE at hd
 split at hd
 ·cases hd; exact ⟨rfl, rfl, h⟩
 ·cases hd
def orcX : List (Nat × (List D → Option D)) := [(45, orcE), (54, orcE)] ++ orcV
theorem orcX_fit : ∀ x ∈ orcX, Fit Try.prog x.1 x.2 := by
 intro x hx
 rcases List.mem_append.1 hx with hx | hx
 ·simp only [List.mem_cons, List.not_mem_nil, or_false] at hx
  rcases hx with rfl | rfl
  ·exact orcE_fit (pure_split2 (E := EV0) (n := 20) EV0_ok (by kernel_rfl) (by kernel_rfl))
  ·exact orcE_fit (pure_split2 (E := EV0) (n := 20) EV0_ok (by kernel_rfl) (by kernel_rfl))
 ·exact orcV_fit x hx
noncomputable def EV : Env := ⟨Try.prog, fun k => fsL.contains k, lookT orcX⟩
theorem EVP : EV.P = Try.prog := rfl
theorem EV_ok : EV.Ok where
 mixed := EV0_ok.mixed
 chk := EV0_ok.chk
 orc := look_fit (P := Try.prog) orcX_fit
theorem f_node {k : Nat} {f : Tr → Option D} {t : Tr} {d : D} (h : ∀ x, EV.orc k [x] = orcN f [x]) (hd : f t = some d) : fn EV k [dN t] = some d := by
 refine fn_orc EV (by simp [plain, dN_under, dN_good]) ?_
 simp only [zmc, zmn, dN_strip]
 rw [h]
 simp only [orcN, toTr_of, zbs, hd]
theorem dN_agg (t : Tr) : D.agg [.int .u8 t.kind, .int .i64 t.num, .str t.name, .slice .imm (if (t.kids.map dN).isEmpty = true then 0 else 4) (t.kids.map dN)] = dN t := (dN_eq t).symm
theorem o_ast_Size (t : Tr) (h : t.size ≤ 4611686018427387904) : fn EV 50 [dN t] = some (.int .i64 t.size) := f_node (f := fun t => if t.size ≤ 4611686018427387904 then some (.int .i64 t.size) else none) (fun _ => rfl) (if_pos h)
theorem any12 : (Try.prog.funcs[12]?).any (fun fn => fn.body.isSome && fn.name != "runtime.NumGoroutine") = true := by kernel_rfl
theorem any13 : (Try.prog.funcs[13]?).any (fun fn => fn.body.isSome && fn.name != "runtime.NumGoroutine") = true := by kernel_rfl
theorem any15 : (Try.prog.funcs[15]?).any (fun fn => fn.body.isSome && fn.name != "runtime.NumGoroutine") = true := by kernel_rfl
theorem any17 : (Try.prog.funcs[17]?).any (fun fn => fn.body.isSome && fn.name != "runtime.NumGoroutine") = true := by kernel_rfl
theorem any18 : (Try.prog.funcs[18]?).any (fun fn => fn.body.isSome && fn.name != "runtime.NumGoroutine") = true := by kernel_rfl
theorem any19 : (Try.prog.funcs[19]?).any (fun fn => fn.body.isSome && fn.name != "runtime.NumGoroutine") = true := by kernel_rfl
theorem any22 : (Try.prog.funcs[22]?).any (fun fn => fn.body.isSome && fn.name != "runtime.NumGoroutine") = true := by kernel_rfl
theorem any24 : (Try.prog.funcs[24]?).any (fun fn => fn.body.isSome && fn.name != "runtime.NumGoroutine") = true := by kernel_rfl
theorem any39 : (Try.prog.funcs[39]?).any (fun fn => fn.body.isSome && fn.name != "runtime.NumGoroutine") = true := by kernel_rfl
theorem any40 : (Try.prog.funcs[40]?).any (fun fn => fn.body.isSome && fn.name != "runtime.NumGoroutine") = true := by kernel_rfl
theorem any44 : (Try.prog.funcs[44]?).any (fun fn => fn.body.isSome && fn.name != "runtime.NumGoroutine") = true := by kernel_rfl
theorem any45 : (Try.prog.funcs[45]?).any (fun fn => fn.body.isSome && fn.name != "runtime.NumGoroutine") = true := by kernel_rfl
theorem any46 : (Try.prog.funcs[46]?).any (fun fn => fn.body.isSome && fn.name != "runtime.NumGoroutine") = true := by kernel_rfl
theorem any47 : (Try.prog.funcs[47]?).any (fun fn => fn.body.isSome && fn.name != "runtime.NumGoroutine") = true := by kernel_rfl
theorem any48 : (Try.prog.funcs[48]?).any (fun fn => fn.body.isSome && fn.name != "runtime.NumGoroutine") = true := by kernel_rfl
theorem any49 : (Try.prog.funcs[49]?).any (fun fn => fn.body.isSome && fn.name != "runtime.NumGoroutine") = true := by kernel_rfl
theorem any50 : (Try.prog.funcs[50]?).any (fun fn => fn.body.isSome && fn.name != "runtime.NumGoroutine") = true := by kernel_rfl
theorem any55 : (Try.prog.funcs[55]?).any (fun fn => fn.body.isSome && fn.name != "runtime.NumGoroutine") = true := by kernel_rfl
theorem any61 : (Try.prog.funcs[61]?).any (fun fn => fn.body.isSome && fn.name != "runtime.NumGoroutine") = true := by kernel_rfl
theorem any62 : (Try.prog.funcs[62]?).any (fun fn => fn.body.isSome && fn.name != "runtime.NumGoroutine") = true := by kernel_rfl
theorem any63 : (Try.prog.funcs[63]?).any (fun fn => fn.body.isSome && fn.name != "runtime.NumGoroutine") = true := by kernel_rfl
theorem any67 : (Try.prog.funcs[67]?).any (fun fn => fn.body.isSome && fn.name != "runtime.NumGoroutine") = true := by kernel_rfl
theorem any78 : (Try.prog.funcs[78]?).any (fun fn => fn.body.isSome && fn.name != "runtime.NumGoroutine") = true := by kernel_rfl
theorem any79 : (Try.prog.funcs[79]?).any (fun fn => fn.body.isSome && fn.name != "runtime.NumGoroutine") = true := by kernel_rfl
end Go.Proofs.Ytjikokmhknnnoaa
