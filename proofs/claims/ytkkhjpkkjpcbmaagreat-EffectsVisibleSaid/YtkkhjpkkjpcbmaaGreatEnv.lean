import Derived.Test.YtkkhjpkkjpcbmaaGreatBI
import Derived.Test.YtkkhjpkkjpcbmaaGreatBG
/- The environment of the machine: which functions it runs, which contracts it is handed. -/
namespace Go.Proofs.YtkkhjpkkjpcbmaaGreat
open Go.RowKit

def orcV : List (Nat × (List D → Option D)) := orcB
theorem orcV_fit : ∀ x ∈ orcV, Fit Tryz.prog x.1 x.2 := by
 intro x hx
 exact orcB_fit x hx
def fsL : List Nat := [3, 4, 5, 6, 7, 9, 11, 12, 13, 16, 17, 19, 20, 21, 22, 23, 24, 25, 29, 32, 33, 36, 37, 38, 40, 42, 43, 44, 45, 46, 47, 48, 49, 50, 51, 52, 53, 54, 55, 56, 57, 58, 59, 60, 61, 62, 63, 65, 66, 67, 68, 69, 71, 72, 73, 74, 75, 76, 77, 80, 81, 85, 88, 91, 92, 96, 99, 102, 103, 105, 106, 107, 108, 109, 111, 112, 113, 115, 116]
noncomputable def EV0 : Env := ⟨Tryz.prog, fun k => fsL.contains k, lookT orcV⟩
theorem EV0_ok : EV0.Ok where
 mixed := by show Tryz.prog.follows .mixedOrders = true; kernel_rfl
 chk := fnOk_chk (P := Tryz.prog) (l := fsL) (by kernel_rfl)
 orc := look_fit (P := Tryz.prog) orcV_fit
/-- a copy of an empty slice -/
def orcE (args : List D) : Option D := match args with
 | [.slice .imm 0 []] => some (.slice .imm 0 [])
 | _ => none
theorem orcE_fit {k : Nat} (h : PContract Tryz.prog k [.slice .imm 0 []] (.slice .imm 0 [])) : Fit Tryz.prog k orcE := by
 intro args d hd
 unfold orcE at hd
 split at hd
 ·cases hd; exact ⟨rfl, rfl, h⟩
 ·cases hd
def orcX : List (Nat × (List D → Option D)) := [(21, orcE)] ++ orcV
theorem orcX_fit : ∀ x ∈ orcX, Fit Tryz.prog x.1 x.2 := by
 intro x hx
 rcases List.mem_append.1 hx with hx | hx
 ·simp only [List.mem_cons, List.not_mem_nil, or_false] at hx
  rcases hx with rfl
  ·exact orcE_fit (pure_split2 (E := EV0) (n := 20) EV0_ok (by kernel_rfl) (by kernel_rfl))
 ·exact orcV_fit x hx
noncomputable def EV : Env := ⟨Tryz.prog, fun k => fsL.contains k, lookT orcX⟩
theorem EVP : EV.P = Tryz.prog := rfl
theorem EV_ok : EV.Ok where
 mixed := EV0_ok.mixed
 chk := EV0_ok.chk
 orc := look_fit (P := Tryz.prog) orcX_fit
theorem f_node {k : Nat} {f : Tr → Option D} {t : Tr} {d : D} (h : ∀ x, EV.orc k [x] = orcN f [x]) (hd : f t = some d) : fn EV k [dN t] = some d := by
 refine fn_orc EV (by simp [plain, dN_under, dN_good]) ?_
 simp only [zmc, zmn, dN_strip]
 rw [h]
 simp only [orcN, toTr_of, zbs, hd]
theorem dN_agg (t : Tr) : D.agg [.int .u8 t.kind, .int .i64 t.num, .str t.name, .slice .imm (if (t.kids.map dN).isEmpty = true then 0 else 4) (t.kids.map dN)] = dN t := (dN_eq t).symm
theorem any4 : (Tryz.prog.funcs[4]?).any (fun fn => fn.body.isSome && fn.name != "runtime.NumGoroutine") = true := by kernel_rfl
theorem any5 : (Tryz.prog.funcs[5]?).any (fun fn => fn.body.isSome && fn.name != "runtime.NumGoroutine") = true := by kernel_rfl
theorem any6 : (Tryz.prog.funcs[6]?).any (fun fn => fn.body.isSome && fn.name != "runtime.NumGoroutine") = true := by kernel_rfl
theorem any7 : (Tryz.prog.funcs[7]?).any (fun fn => fn.body.isSome && fn.name != "runtime.NumGoroutine") = true := by kernel_rfl
theorem any8 : (Tryz.prog.funcs[8]?).any (fun fn => fn.body.isSome && fn.name != "runtime.NumGoroutine") = true := by kernel_rfl
theorem any9 : (Tryz.prog.funcs[9]?).any (fun fn => fn.body.isSome && fn.name != "runtime.NumGoroutine") = true := by kernel_rfl
theorem any10 : (Tryz.prog.funcs[10]?).any (fun fn => fn.body.isSome && fn.name != "runtime.NumGoroutine") = true := by kernel_rfl
theorem any11 : (Tryz.prog.funcs[11]?).any (fun fn => fn.body.isSome && fn.name != "runtime.NumGoroutine") = true := by kernel_rfl
theorem any16 : (Tryz.prog.funcs[16]?).any (fun fn => fn.body.isSome && fn.name != "runtime.NumGoroutine") = true := by kernel_rfl
theorem any20 : (Tryz.prog.funcs[20]?).any (fun fn => fn.body.isSome && fn.name != "runtime.NumGoroutine") = true := by kernel_rfl
theorem any21 : (Tryz.prog.funcs[21]?).any (fun fn => fn.body.isSome && fn.name != "runtime.NumGoroutine") = true := by kernel_rfl
theorem any22 : (Tryz.prog.funcs[22]?).any (fun fn => fn.body.isSome && fn.name != "runtime.NumGoroutine") = true := by kernel_rfl
theorem any23 : (Tryz.prog.funcs[23]?).any (fun fn => fn.body.isSome && fn.name != "runtime.NumGoroutine") = true := by kernel_rfl
theorem any24 : (Tryz.prog.funcs[24]?).any (fun fn => fn.body.isSome && fn.name != "runtime.NumGoroutine") = true := by kernel_rfl
theorem any25 : (Tryz.prog.funcs[25]?).any (fun fn => fn.body.isSome && fn.name != "runtime.NumGoroutine") = true := by kernel_rfl
theorem any29 : (Tryz.prog.funcs[29]?).any (fun fn => fn.body.isSome && fn.name != "runtime.NumGoroutine") = true := by kernel_rfl
theorem any30 : (Tryz.prog.funcs[30]?).any (fun fn => fn.body.isSome && fn.name != "runtime.NumGoroutine") = true := by kernel_rfl
theorem any31 : (Tryz.prog.funcs[31]?).any (fun fn => fn.body.isSome && fn.name != "runtime.NumGoroutine") = true := by kernel_rfl
theorem any32 : (Tryz.prog.funcs[32]?).any (fun fn => fn.body.isSome && fn.name != "runtime.NumGoroutine") = true := by kernel_rfl
theorem any33 : (Tryz.prog.funcs[33]?).any (fun fn => fn.body.isSome && fn.name != "runtime.NumGoroutine") = true := by kernel_rfl
theorem any36 : (Tryz.prog.funcs[36]?).any (fun fn => fn.body.isSome && fn.name != "runtime.NumGoroutine") = true := by kernel_rfl
theorem any37 : (Tryz.prog.funcs[37]?).any (fun fn => fn.body.isSome && fn.name != "runtime.NumGoroutine") = true := by kernel_rfl
theorem any42 : (Tryz.prog.funcs[42]?).any (fun fn => fn.body.isSome && fn.name != "runtime.NumGoroutine") = true := by kernel_rfl
theorem any43 : (Tryz.prog.funcs[43]?).any (fun fn => fn.body.isSome && fn.name != "runtime.NumGoroutine") = true := by kernel_rfl
theorem any44 : (Tryz.prog.funcs[44]?).any (fun fn => fn.body.isSome && fn.name != "runtime.NumGoroutine") = true := by kernel_rfl
theorem any45 : (Tryz.prog.funcs[45]?).any (fun fn => fn.body.isSome && fn.name != "runtime.NumGoroutine") = true := by kernel_rfl
theorem any54 : (Tryz.prog.funcs[54]?).any (fun fn => fn.body.isSome && fn.name != "runtime.NumGoroutine") = true := by kernel_rfl
theorem any65 : (Tryz.prog.funcs[65]?).any (fun fn => fn.body.isSome && fn.name != "runtime.NumGoroutine") = true := by kernel_rfl
theorem any66 : (Tryz.prog.funcs[66]?).any (fun fn => fn.body.isSome && fn.name != "runtime.NumGoroutine") = true := by kernel_rfl
theorem any67 : (Tryz.prog.funcs[67]?).any (fun fn => fn.body.isSome && fn.name != "runtime.NumGoroutine") = true := by kernel_rfl
theorem any74 : (Tryz.prog.funcs[74]?).any (fun fn => fn.body.isSome && fn.name != "runtime.NumGoroutine") = true := by kernel_rfl
end Go.Proofs.YtkkhjpkkjpcbmaaGreat
