import Derived.Test.YtkkhjpkkjpcbmaaBI
import Derived.Test.YtkkhjpkkjpcbmaaBG
/- The environment of the machine: which functions it runs, which contracts it is handed. -/
namespace Go.Proofs.Ytkkhjpkkjpcbmaa
open Go.RowKit

def orcV : List (Nat × (List D → Option D)) := (43, orcN fun t => if t.size ≤ 1000000 then some (dN t) else none) :: (23, orcN fun t => if t.size ≤ 1000000 then some (.it (walkD t)) else none) :: orcB
theorem orcV_fit : ∀ x ∈ orcV, Fit Try.prog x.1 x.2 := by
  intro x hx
  rcases List.mem_cons.1 hx with rfl | hx
  · exact fit_makes clone_any
  rcases List.mem_cons.1 hx with rfl | hx
  · exact fit_walk
  · exact orcB_fit x hx
def fsL : List Nat := [3, 4, 5, 6, 7, 8, 9, 10, 11, 12, 13, 15, 17, 18, 19, 21, 22, 24, 26, 27, 29, 30, 31, 35, 36, 37, 39, 40, 42, 46, 47, 48, 51, 52, 58, 59, 60]
noncomputable def EV0 : Env := ⟨Try.prog, fun k => fsL.contains k, lookT orcV⟩
theorem EV0_ok : EV0.Ok where
  mixed := by show Try.prog.follows .mixedOrders = true; kernel_rfl
  chk := fnOk_chk (P := Try.prog) (l := fsL) (by kernel_rfl)
  orc := look_fit (P := Try.prog) orcV_fit
/-- a copy of an empty slice -/
def orcE (args : List D) : Option D := match args with
  | [.slice .imm 0 []] => some (.slice .imm 0 [])
  | _ => none
theorem orcE_fit {k : Nat} (h : PContract Try.prog k [.slice .imm 0 []] (.slice .imm 0 [])) : Fit Try.prog k orcE := by
  intro args d hd
  unfold orcE at hd
  split at hd
  · cases hd; exact ⟨rfl, rfl, h⟩
  · cases hd
def orcX : List (Nat × (List D → Option D)) := [(46, orcE)] ++ orcV
theorem orcX_fit : ∀ x ∈ orcX, Fit Try.prog x.1 x.2 := by
  intro x hx
  rcases List.mem_append.1 hx with hx | hx
  · simp only [List.mem_cons, List.not_mem_nil, or_false] at hx
    rcases hx with rfl
    · exact orcE_fit (pure_split2 (E := EV0) (n := 20) EV0_ok (by kernel_rfl) (by kernel_rfl))
  · exact orcV_fit x hx
noncomputable def EV : Env := ⟨Try.prog, fun k => fsL.contains k, lookT orcX⟩
theorem EVP : EV.P = Try.prog := rfl
theorem EV_ok : EV.Ok where
  mixed := EV0_ok.mixed
  chk := EV0_ok.chk
  orc := look_fit (P := Try.prog) orcX_fit
theorem dN_agg (t : Tr) : D.agg [.int .u8 t.kind, .int .i64 t.num, .str t.name, .slice .imm (if (t.kids.map dN).isEmpty = true then 0 else 4) (t.kids.map dN)] = dN t := (dN_eq t).symm
theorem any11 : (Try.prog.funcs[11]?).any (fun fn => fn.body.isSome && fn.name != "runtime.NumGoroutine") = true := by kernel_rfl
theorem any12 : (Try.prog.funcs[12]?).any (fun fn => fn.body.isSome && fn.name != "runtime.NumGoroutine") = true := by kernel_rfl
theorem any18 : (Try.prog.funcs[18]?).any (fun fn => fn.body.isSome && fn.name != "runtime.NumGoroutine") = true := by kernel_rfl
theorem any24 : (Try.prog.funcs[24]?).any (fun fn => fn.body.isSome && fn.name != "runtime.NumGoroutine") = true := by kernel_rfl
theorem any25 : (Try.prog.funcs[25]?).any (fun fn => fn.body.isSome && fn.name != "runtime.NumGoroutine") = true := by kernel_rfl
theorem any26 : (Try.prog.funcs[26]?).any (fun fn => fn.body.isSome && fn.name != "runtime.NumGoroutine") = true := by kernel_rfl
theorem any27 : (Try.prog.funcs[27]?).any (fun fn => fn.body.isSome && fn.name != "runtime.NumGoroutine") = true := by kernel_rfl
theorem any28 : (Try.prog.funcs[28]?).any (fun fn => fn.body.isSome && fn.name != "runtime.NumGoroutine") = true := by kernel_rfl
theorem any29 : (Try.prog.funcs[29]?).any (fun fn => fn.body.isSome && fn.name != "runtime.NumGoroutine") = true := by kernel_rfl
theorem any31 : (Try.prog.funcs[31]?).any (fun fn => fn.body.isSome && fn.name != "runtime.NumGoroutine") = true := by kernel_rfl
theorem any40 : (Try.prog.funcs[40]?).any (fun fn => fn.body.isSome && fn.name != "runtime.NumGoroutine") = true := by kernel_rfl
theorem any47 : (Try.prog.funcs[47]?).any (fun fn => fn.body.isSome && fn.name != "runtime.NumGoroutine") = true := by kernel_rfl
theorem any48 : (Try.prog.funcs[48]?).any (fun fn => fn.body.isSome && fn.name != "runtime.NumGoroutine") = true := by kernel_rfl
theorem any49 : (Try.prog.funcs[49]?).any (fun fn => fn.body.isSome && fn.name != "runtime.NumGoroutine") = true := by kernel_rfl
theorem any50 : (Try.prog.funcs[50]?).any (fun fn => fn.body.isSome && fn.name != "runtime.NumGoroutine") = true := by kernel_rfl
theorem any51 : (Try.prog.funcs[51]?).any (fun fn => fn.body.isSome && fn.name != "runtime.NumGoroutine") = true := by kernel_rfl
theorem any52 : (Try.prog.funcs[52]?).any (fun fn => fn.body.isSome && fn.name != "runtime.NumGoroutine") = true := by kernel_rfl
theorem any58 : (Try.prog.funcs[58]?).any (fun fn => fn.body.isSome && fn.name != "runtime.NumGoroutine") = true := by kernel_rfl
theorem any59 : (Try.prog.funcs[59]?).any (fun fn => fn.body.isSome && fn.name != "runtime.NumGoroutine") = true := by kernel_rfl
theorem any60 : (Try.prog.funcs[60]?).any (fun fn => fn.body.isSome && fn.name != "runtime.NumGoroutine") = true := by kernel_rfl
end Go.Proofs.Ytkkhjpkkjpcbmaa
