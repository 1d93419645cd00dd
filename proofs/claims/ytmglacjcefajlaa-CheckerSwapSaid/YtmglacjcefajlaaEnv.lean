import Derived.Test.YtmglacjcefajlaaBI
import Derived.Test.YtmglacjcefajlaaBG
/- The environment of the machine: which functions it runs, which contracts it is handed. -/
namespace Go.Proofs.Ytmglacjcefajlaa
open Go.RowKit

def orcV : List (Nat × (List D → Option D)) := (62, orcN fun t => if t.size ≤ 1000000 then some (dN t) else none) :: (40, orcN fun t => if t.size ≤ 1000000 then some (.it (walkD t)) else none) :: orcB
theorem orcV_fit : ∀ x ∈ orcV, Fit Try.prog x.1 x.2 := by
 intro x hx
 rcases List.mem_cons.1 hx with rfl | hx
 ·exact fit_makes clone_any
 rcases List.mem_cons.1 hx with rfl | hx
 ·exact fit_walk
 ·exact orcB_fit x hx
def fsL : List Nat := [3, 4, 5, 6, 7, 8, 9, 10, 11, 12, 13, 14, 15, 16, 17, 18, 19, 22, 23, 25, 26, 27, 28, 29, 30, 32, 33, 34, 35, 36, 37, 38, 39, 41, 42, 43, 46, 47, 48, 50, 51, 52, 54, 55, 56, 57, 58, 59, 60, 61, 65, 66, 67, 68, 69, 70, 71, 72, 73, 74, 75, 76, 77, 78, 79, 80, 81, 82, 83, 84, 85, 86, 87, 88, 89, 90, 91, 92, 93, 94, 95, 96, 98, 99]
noncomputable def EV0 : Env := ⟨Try.prog, fun k => fsL.contains k, lookT orcV⟩
theorem EV0_ok : EV0.Ok where
 mixed := by show Try.prog.follows .mixedOrders = true; kernel_rfl
 chk := fnOk_chk (P := Try.prog) (l := fsL) (by kernel_rfl)
 orc := look_fit (P := Try.prog) orcV_fit
/-- a copy of an empty slice -/
def orcE (args : List D) : Option D := match args with
 | [.slice .imm 0 []] => some (.slice .imm 0 [])
 | _ => none
theorem orcE_fit {k : Nat} (h : PContract Try.prog k [.slice .imm 0 []] (.slice .imm 0 [])) : Fit Try.prog k orcE := by
 intro args d hd
 unfold orcE at hd
 split at hd
 ·cases hd; exact ⟨rfl, rfl, h⟩
 ·cases hd
def orcX : List (Nat × (List D → Option D)) := [(34, orcE)] ++ orcV
theorem orcX_fit : ∀ x ∈ orcX, Fit Try.prog x.1 x.2 := by
 intro x hx
 rcases List.mem_append.1 hx with hx | hx
 ·simp only [List.mem_cons, List.not_mem_nil, or_false] at hx
  rcases hx with rfl
  ·exact orcE_fit (pure_split2 (E := EV0) (n := 20) EV0_ok (by kernel_rfl) (by kernel_rfl))
 ·exact orcV_fit x hx
noncomputable def EV : Env := ⟨Try.prog, fun k => fsL.contains k, lookT orcX⟩
theorem EVP : EV.P = Try.prog := rfl
theorem EV_ok : EV.Ok where
 mixed := EV0_ok.mixed
 chk := EV0_ok.chk
 orc := look_fit (P := Try.prog) orcX_fit
theorem f_node {k : Nat} {f : Tr → Option D} {t : Tr} {d : D} (h : ∀ x, EV.orc k [x] = orcN f [x]) (hd : f t = some d) : fn EV k [dN t] = some d := by
 refine fn_orc EV (by simp [plain, dN_under, dN_good]) ?_
 simp only [zmc, zmn, dN_strip]
 rw [h]
 simp only [orcN, toTr_of, zbs, hd]
theorem dN_agg (t : Tr) : D.agg [.int .u8 t.kind, .int .i64 t.num, .str t.name, .slice .imm (if (t.kids.map dN).isEmpty = true then 0 else 4) (t.kids.map dN)] = dN t := (dN_eq t).symm
theorem o_ast_IsExpr (t : Tr) : fn EV 45 [dN t] = some (.bool (exprB t)) := f_node (f := fun t => some (.bool (exprB t))) (fun _ => rfl) rfl
theorem o_ast_Walk (t : Tr) (h : t.size ≤ 1000000) : fn EV 40 [dN t] = some (.it (walkD t)) := f_node (f := fun t => if t.size ≤ 1000000 then some (.it (walkD t)) else none) (fun _ => rfl) (if_pos h)
theorem any13 : (Try.prog.funcs[13]?).any (fun fn => fn.body.isSome && fn.name != "runtime.NumGoroutine") = true := by kernel_rfl
theorem any14 : (Try.prog.funcs[14]?).any (fun fn => fn.body.isSome && fn.name != "runtime.NumGoroutine") = true := by kernel_rfl
theorem any15 : (Try.prog.funcs[15]?).any (fun fn => fn.body.isSome && fn.name != "runtime.NumGoroutine") = true := by kernel_rfl
theorem any18 : (Try.prog.funcs[18]?).any (fun fn => fn.body.isSome && fn.name != "runtime.NumGoroutine") = true := by kernel_rfl
theorem any26 : (Try.prog.funcs[26]?).any (fun fn => fn.body.isSome && fn.name != "runtime.NumGoroutine") = true := by kernel_rfl
theorem any27 : (Try.prog.funcs[27]?).any (fun fn => fn.body.isSome && fn.name != "runtime.NumGoroutine") = true := by kernel_rfl
theorem any28 : (Try.prog.funcs[28]?).any (fun fn => fn.body.isSome && fn.name != "runtime.NumGoroutine") = true := by kernel_rfl
theorem any29 : (Try.prog.funcs[29]?).any (fun fn => fn.body.isSome && fn.name != "runtime.NumGoroutine") = true := by kernel_rfl
theorem any33 : (Try.prog.funcs[33]?).any (fun fn => fn.body.isSome && fn.name != "runtime.NumGoroutine") = true := by kernel_rfl
theorem any34 : (Try.prog.funcs[34]?).any (fun fn => fn.body.isSome && fn.name != "runtime.NumGoroutine") = true := by kernel_rfl
theorem any35 : (Try.prog.funcs[35]?).any (fun fn => fn.body.isSome && fn.name != "runtime.NumGoroutine") = true := by kernel_rfl
theorem any36 : (Try.prog.funcs[36]?).any (fun fn => fn.body.isSome && fn.name != "runtime.NumGoroutine") = true := by kernel_rfl
theorem any37 : (Try.prog.funcs[37]?).any (fun fn => fn.body.isSome && fn.name != "runtime.NumGoroutine") = true := by kernel_rfl
theorem any38 : (Try.prog.funcs[38]?).any (fun fn => fn.body.isSome && fn.name != "runtime.NumGoroutine") = true := by kernel_rfl
theorem any39 : (Try.prog.funcs[39]?).any (fun fn => fn.body.isSome && fn.name != "runtime.NumGoroutine") = true := by kernel_rfl
theorem any40 : (Try.prog.funcs[40]?).any (fun fn => fn.body.isSome && fn.name != "runtime.NumGoroutine") = true := by kernel_rfl
theorem any45 : (Try.prog.funcs[45]?).any (fun fn => fn.body.isSome && fn.name != "runtime.NumGoroutine") = true := by kernel_rfl
theorem any50 : (Try.prog.funcs[50]?).any (fun fn => fn.body.isSome && fn.name != "runtime.NumGoroutine") = true := by kernel_rfl
theorem any51 : (Try.prog.funcs[51]?).any (fun fn => fn.body.isSome && fn.name != "runtime.NumGoroutine") = true := by kernel_rfl
theorem any55 : (Try.prog.funcs[55]?).any (fun fn => fn.body.isSome && fn.name != "runtime.NumGoroutine") = true := by kernel_rfl
theorem any56 : (Try.prog.funcs[56]?).any (fun fn => fn.body.isSome && fn.name != "runtime.NumGoroutine") = true := by kernel_rfl
theorem any57 : (Try.prog.funcs[57]?).any (fun fn => fn.body.isSome && fn.name != "runtime.NumGoroutine") = true := by kernel_rfl
theorem any58 : (Try.prog.funcs[58]?).any (fun fn => fn.body.isSome && fn.name != "runtime.NumGoroutine") = true := by kernel_rfl
theorem any59 : (Try.prog.funcs[59]?).any (fun fn => fn.body.isSome && fn.name != "runtime.NumGoroutine") = true := by kernel_rfl
theorem any60 : (Try.prog.funcs[60]?).any (fun fn => fn.body.isSome && fn.name != "runtime.NumGoroutine") = true := by kernel_rfl
theorem any61 : (Try.prog.funcs[61]?).any (fun fn => fn.body.isSome && fn.name != "runtime.NumGoroutine") = true := by kernel_rfl
theorem any67 : (Try.prog.funcs[67]?).any (fun fn => fn.body.isSome && fn.name != "runtime.NumGoroutine") = true := by kernel_rfl
theorem any68 : (Try.prog.funcs[68]?).any (fun fn => fn.body.isSome && fn.name != "runtime.NumGoroutine") = true := by kernel_rfl
theorem any69 : (Try.prog.funcs[69]?).any (fun fn => fn.body.isSome && fn.name != "runtime.NumGoroutine") = true := by kernel_rfl
theorem any70 : (Try.prog.funcs[70]?).any (fun fn => fn.body.isSome && fn.name != "runtime.NumGoroutine") = true := by kernel_rfl
theorem any71 : (Try.prog.funcs[71]?).any (fun fn => fn.body.isSome && fn.name != "runtime.NumGoroutine") = true := by kernel_rfl
theorem any72 : (Try.prog.funcs[72]?).any (fun fn => fn.body.isSome && fn.name != "runtime.NumGoroutine") = true := by kernel_rfl
theorem any73 : (Try.prog.funcs[73]?).any (fun fn => fn.body.isSome && fn.name != "runtime.NumGoroutine") = true := by kernel_rfl
theorem any81 : (Try.prog.funcs[81]?).any (fun fn => fn.body.isSome && fn.name != "runtime.NumGoroutine") = true := by kernel_rfl
theorem any82 : (Try.prog.funcs[82]?).any (fun fn => fn.body.isSome && fn.name != "runtime.NumGoroutine") = true := by kernel_rfl
theorem any83 : (Try.prog.funcs[83]?).any (fun fn => fn.body.isSome && fn.name != "runtime.NumGoroutine") = true := by kernel_rfl
theorem any84 : (Try.prog.funcs[84]?).any (fun fn => fn.body.isSome && fn.name != "runtime.NumGoroutine") = true := by kernel_rfl
theorem any85 : (Try.prog.funcs[85]?).any (fun fn => fn.body.isSome && fn.name != "runtime.NumGoroutine") = true := by kernel_rfl
theorem any88 : (Try.prog.funcs[88]?).any (fun fn => fn.body.isSome && fn.name != "runtime.NumGoroutine") = true := by kernel_rfl
theorem any89 : (Try.prog.funcs[89]?).any (fun fn => fn.body.isSome && fn.name != "runtime.NumGoroutine") = true := by kernel_rfl
theorem any90 : (Try.prog.funcs[90]?).any (fun fn => fn.body.isSome && fn.name != "runtime.NumGoroutine") = true := by kernel_rfl
theorem any91 : (Try.prog.funcs[91]?).any (fun fn => fn.body.isSome && fn.name != "runtime.NumGoroutine") = true := by kernel_rfl
theorem any92 : (Try.prog.funcs[92]?).any (fun fn => fn.body.isSome && fn.name != "runtime.NumGoroutine") = true := by kernel_rfl
theorem any95 : (Try.prog.funcs[95]?).any (fun fn => fn.body.isSome && fn.name != "runtime.NumGoroutine") = true := by kernel_rfl
theorem any96 : (Try.prog.funcs[96]?).any (fun fn => fn.body.isSome && fn.name != "runtime.NumGoroutine") = true := by kernel_rfl
theorem any98 : (Try.prog.funcs[98]?).any (fun fn => fn.body.isSome && fn.name != "runtime.NumGoroutine") = true := by kernel_rfl
theorem any99 : (Try.prog.funcs[99]?).any (fun fn => fn.body.isSome && fn.name != "runtime.NumGoroutine") = true := by kernel_rfl

end Go.Proofs.Ytmglacjcefajlaa
