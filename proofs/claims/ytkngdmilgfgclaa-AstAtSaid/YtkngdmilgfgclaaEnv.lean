import Derived.Test.YtkngdmilgfgclaaBI
import Derived.Test.YtkngdmilgfgclaaBG
/- The environment of the machine: which functions it runs, which contracts it is handed. -/
namespace Go.Proofs.Ytkngdmilgfgclaa
open Go.RowKit

def orcV : List (Nat × (List D → Option D)) := (30, orcN fun t => if t.size ≤ 1000000 then some (dN t) else none) :: (24, orcN fun t => if t.size ≤ 1000000 then some (.it (walkD t)) else none) :: orcB
theorem orcV_fit : ∀ x ∈ orcV, Fit Try.prog x.1 x.2 := by
  intro x hx
  rcases List.mem_cons.1 hx with rfl | hx
  · exact fit_makes clone_any
  rcases List.mem_cons.1 hx with rfl | hx
  · exact fit_walk
  · exact orcB_fit x hx
def fsL : List Nat := [3, 4, 5, 6, 7, 8, 9, 10, 11, 12, 13, 23, 25, 27, 37, 39, 40, 41, 42, 43, 44, 45, 46, 47, 48, 50, 51, 52, 55, 56, 57, 58, 59, 60, 61, 62, 64, 65, 66, 67, 68, 70, 71, 72, 73, 74, 75, 76, 77, 78, 79, 80, 81, 82, 83, 84, 85, 86, 87]
noncomputable def EV0 : Env := ⟨Try.prog, fun k => fsL.contains k, lookT orcV⟩
theorem EV0_ok : EV0.Ok where
  mixed := by show Try.prog.follows .mixedOrders = true; kernel_rfl
  chk := fnOk_chk (P := Try.prog) (l := fsL) (by kernel_rfl)
  orc := look_fit (P := Try.prog) orcV_fit
/-- a copy of an empty slice -/
def orcE (args : List D) : Option D := match args with
  | [.slice .imm 0 []] => some (.slice .imm 0 [])
  | _ => none
theorem orcE_fit {k : Nat} (h : PContract Try.prog k [.slice .imm 0 []] (.slice .imm 0 [])) : Fit Try.prog k orcE := by
  intro args d hd
  unfold orcE at hd
  split at hd
  · cases hd; exact ⟨rfl, rfl, h⟩
  · cases hd
def orcX : List (Nat × (List D → Option D)) := [(55, orcE), (57, orcE)] ++ orcV
theorem orcX_fit : ∀ x ∈ orcX, Fit Try.prog x.1 x.2 := by
  intro x hx
  rcases List.mem_append.1 hx with hx | hx
  · simp only [List.mem_cons, List.not_mem_nil, or_false] at hx
    rcases hx with rfl | rfl
    · exact orcE_fit (pure_split2 (E := EV0) (n := 20) EV0_ok (by kernel_rfl) (by kernel_rfl))
    · exact orcE_fit (pure_split2 (E := EV0) (n := 20) EV0_ok (by kernel_rfl) (by kernel_rfl))
  · exact orcV_fit x hx
noncomputable def EV : Env := ⟨Try.prog, fun k => fsL.contains k, lookT orcX⟩
theorem EVP : EV.P = Try.prog := rfl
theorem EV_ok : EV.Ok where
  mixed := EV0_ok.mixed
  chk := EV0_ok.chk
  orc := look_fit (P := Try.prog) orcX_fit
theorem f_node {k : Nat} {f : Tr → Option D} {t : Tr} {d : D} (h : ∀ x, EV.orc k [x] = orcN f [x]) (hd : f t = some d) : fn EV k [dN t] = some d := by
  refine fn_orc EV (by simp [plain, dN_under, dN_good]) ?_
  simp only [List.map_cons, List.map_nil, dN_strip]
  rw [h]
  simp only [orcN, toTr_of, Option.bind_some, hd]
theorem f_nodes {k : Nat} {f : Tr → Tr → Option D} {t u : Tr} {d : D} (h : ∀ x y, EV.orc k [x, y] = orcNN f [x, y]) (hd : f t u = some d) : fn EV k [dN t, dN u] = some d := by
  refine fn_orc EV (by simp [plain, dN_under, dN_good]) ?_
  simp only [List.map_cons, List.map_nil, dN_strip]
  rw [h]
  simp only [orcNN, toTr_of, hd]
theorem dN_agg (t : Tr) : D.agg [.int .u8 t.kind, .int .i64 t.num, .str t.name, .slice .imm (if (t.kids.map dN).isEmpty = true then 0 else 4) (t.kids.map dN)] = dN t := (dN_eq t).symm
theorem dN_cellsL (t : Tr) : (dN t).cells.length = 4 := by rw [dN_eq]; rfl
theorem dN_len : (4 : Nat) = 4 ↔ True := by simp
theorem o_backstepref03_Big (t : Tr) : fn EV 14 [dN t] = some (.bool (bigB t)) := f_node (f := fun t => some (.bool (bigB t))) (fun _ => rfl) rfl
theorem o_ast_IsExpr (t : Tr) : fn EV 15 [dN t] = some (.bool (exprB t)) := f_node (f := fun t => some (.bool (exprB t))) (fun _ => rfl) rfl
theorem o_backstepref03_Expr (t : Tr) : fn EV 16 [dN t] = some (.bool (exprB t)) := f_node (f := fun t => some (.bool (exprB t))) (fun _ => rfl) rfl
theorem o_ast_IsPlace (t : Tr) : fn EV 17 [dN t] = some (.bool (placeB t)) := f_node (f := fun t => some (.bool (placeB t))) (fun _ => rfl) rfl
theorem o_ast_IsStmt (t : Tr) : fn EV 19 [dN t] = some (.bool (stmtB t)) := f_node (f := fun t => some (.bool (stmtB t))) (fun _ => rfl) rfl
theorem o_ast_IsBlock (t : Tr) : fn EV 21 [dN t] = some (.bool (blockB t)) := f_node (f := fun t => some (.bool (blockB t))) (fun _ => rfl) rfl
theorem o_backstepref03_Stmt (t : Tr) : fn EV 20 [dN t] = some (.bool (stmtB t)) := f_node (f := fun t => some (.bool (stmtB t))) (fun _ => rfl) rfl
theorem o_backstepref03_Block (t : Tr) : fn EV 22 [dN t] = some (.bool (blockB t)) := f_node (f := fun t => some (.bool (blockB t))) (fun _ => rfl) rfl
theorem o_backstepref03_Place (t : Tr) : fn EV 18 [dN t] = some (.bool (placeB t)) := f_node (f := fun t => some (.bool (placeB t))) (fun _ => rfl) rfl
theorem o_ast_Equal (t u : Tr) : fn EV 28 [dN t, dN u] = some (.bool (eqB t u)) := f_nodes (f := fun t u => some (.bool (eqB t u))) (fun _ _ => rfl) rfl
theorem o_backstepref03_Equal (t u : Tr) : fn EV 26 [dN t, dN u] = some (.bool (eqB t u)) := f_nodes (f := fun t u => some (.bool (eqB t u))) (fun _ _ => rfl) rfl
theorem o_ast_Size (t : Tr) (h : t.size ≤ 4611686018427387904) : fn EV 31 [dN t] = some (.int .i64 t.size) := f_node (f := fun t => if t.size ≤ 4611686018427387904 then some (.int .i64 t.size) else none) (fun _ => rfl) (if_pos h)
theorem o_backstepref03_Size (t : Tr) (h : t.size ≤ 4611686018427387904) : fn EV 32 [dN t] = some (.int .i64 t.size) := f_node (f := fun t => if t.size ≤ 4611686018427387904 then some (.int .i64 t.size) else none) (fun _ => rfl) (if_pos h)
theorem o_ast_Depth (t : Tr) (h : t.depth ≤ 4611686018427387904) : fn EV 33 [dN t] = some (.int .i64 t.depth) := f_node (f := fun t => if t.depth ≤ 4611686018427387904 then some (.int .i64 t.depth) else none) (fun _ => rfl) (if_pos h)
theorem o_backstepref03_Depth (t : Tr) (h : t.depth ≤ 4611686018427387904) : fn EV 34 [dN t] = some (.int .i64 t.depth) := f_node (f := fun t => if t.depth ≤ 4611686018427387904 then some (.int .i64 t.depth) else none) (fun _ => rfl) (if_pos h)
theorem o_lexer_Name (s : ByteArray) : fn EV 63 [.str s] = some (.bool (nameB s)) := fn_orc EV rfl rfl
theorem o_backstepref03_Name (s : ByteArray) : fn EV 49 [.str s] = some (.bool (nameB s)) := fn_orc EV rfl rfl
theorem o_ast_Clone (t : Tr) (h : t.size ≤ 1000000) : fn EV 30 [dN t] = some (dN t) := f_node (f := fun t => if t.size ≤ 1000000 then some (dN t) else none) (fun _ => rfl) (if_pos h)
theorem o_ast_Walk (t : Tr) (h : t.size ≤ 1000000) : fn EV 24 [dN t] = some (.it (walkD t)) := f_node (f := fun t => if t.size ≤ 1000000 then some (.it (walkD t)) else none) (fun _ => rfl) (if_pos h)
theorem any3 : (Try.prog.funcs[3]?).any (fun fn => fn.body.isSome && fn.name != "runtime.NumGoroutine") = true := by kernel_rfl
theorem any4 : (Try.prog.funcs[4]?).any (fun fn => fn.body.isSome && fn.name != "runtime.NumGoroutine") = true := by kernel_rfl
theorem any5 : (Try.prog.funcs[5]?).any (fun fn => fn.body.isSome && fn.name != "runtime.NumGoroutine") = true := by kernel_rfl
theorem any6 : (Try.prog.funcs[6]?).any (fun fn => fn.body.isSome && fn.name != "runtime.NumGoroutine") = true := by kernel_rfl
theorem any7 : (Try.prog.funcs[7]?).any (fun fn => fn.body.isSome && fn.name != "runtime.NumGoroutine") = true := by kernel_rfl
theorem any8 : (Try.prog.funcs[8]?).any (fun fn => fn.body.isSome && fn.name != "runtime.NumGoroutine") = true := by kernel_rfl
theorem any9 : (Try.prog.funcs[9]?).any (fun fn => fn.body.isSome && fn.name != "runtime.NumGoroutine") = true := by kernel_rfl
theorem any10 : (Try.prog.funcs[10]?).any (fun fn => fn.body.isSome && fn.name != "runtime.NumGoroutine") = true := by kernel_rfl
theorem any11 : (Try.prog.funcs[11]?).any (fun fn => fn.body.isSome && fn.name != "runtime.NumGoroutine") = true := by kernel_rfl
theorem any12 : (Try.prog.funcs[12]?).any (fun fn => fn.body.isSome && fn.name != "runtime.NumGoroutine") = true := by kernel_rfl
theorem any13 : (Try.prog.funcs[13]?).any (fun fn => fn.body.isSome && fn.name != "runtime.NumGoroutine") = true := by kernel_rfl
theorem any14 : (Try.prog.funcs[14]?).any (fun fn => fn.body.isSome && fn.name != "runtime.NumGoroutine") = true := by kernel_rfl
theorem any15 : (Try.prog.funcs[15]?).any (fun fn => fn.body.isSome && fn.name != "runtime.NumGoroutine") = true := by kernel_rfl
theorem any16 : (Try.prog.funcs[16]?).any (fun fn => fn.body.isSome && fn.name != "runtime.NumGoroutine") = true := by kernel_rfl
theorem any17 : (Try.prog.funcs[17]?).any (fun fn => fn.body.isSome && fn.name != "runtime.NumGoroutine") = true := by kernel_rfl
theorem any18 : (Try.prog.funcs[18]?).any (fun fn => fn.body.isSome && fn.name != "runtime.NumGoroutine") = true := by kernel_rfl
theorem any19 : (Try.prog.funcs[19]?).any (fun fn => fn.body.isSome && fn.name != "runtime.NumGoroutine") = true := by kernel_rfl
theorem any20 : (Try.prog.funcs[20]?).any (fun fn => fn.body.isSome && fn.name != "runtime.NumGoroutine") = true := by kernel_rfl
theorem any21 : (Try.prog.funcs[21]?).any (fun fn => fn.body.isSome && fn.name != "runtime.NumGoroutine") = true := by kernel_rfl
theorem any22 : (Try.prog.funcs[22]?).any (fun fn => fn.body.isSome && fn.name != "runtime.NumGoroutine") = true := by kernel_rfl
theorem any23 : (Try.prog.funcs[23]?).any (fun fn => fn.body.isSome && fn.name != "runtime.NumGoroutine") = true := by kernel_rfl
theorem any24 : (Try.prog.funcs[24]?).any (fun fn => fn.body.isSome && fn.name != "runtime.NumGoroutine") = true := by kernel_rfl
theorem any25 : (Try.prog.funcs[25]?).any (fun fn => fn.body.isSome && fn.name != "runtime.NumGoroutine") = true := by kernel_rfl
theorem any26 : (Try.prog.funcs[26]?).any (fun fn => fn.body.isSome && fn.name != "runtime.NumGoroutine") = true := by kernel_rfl
theorem any27 : (Try.prog.funcs[27]?).any (fun fn => fn.body.isSome && fn.name != "runtime.NumGoroutine") = true := by kernel_rfl
theorem any28 : (Try.prog.funcs[28]?).any (fun fn => fn.body.isSome && fn.name != "runtime.NumGoroutine") = true := by kernel_rfl
theorem any29 : (Try.prog.funcs[29]?).any (fun fn => fn.body.isSome && fn.name != "runtime.NumGoroutine") = true := by kernel_rfl
theorem any30 : (Try.prog.funcs[30]?).any (fun fn => fn.body.isSome && fn.name != "runtime.NumGoroutine") = true := by kernel_rfl
theorem any31 : (Try.prog.funcs[31]?).any (fun fn => fn.body.isSome && fn.name != "runtime.NumGoroutine") = true := by kernel_rfl
theorem any32 : (Try.prog.funcs[32]?).any (fun fn => fn.body.isSome && fn.name != "runtime.NumGoroutine") = true := by kernel_rfl
theorem any33 : (Try.prog.funcs[33]?).any (fun fn => fn.body.isSome && fn.name != "runtime.NumGoroutine") = true := by kernel_rfl
theorem any34 : (Try.prog.funcs[34]?).any (fun fn => fn.body.isSome && fn.name != "runtime.NumGoroutine") = true := by kernel_rfl
theorem any35 : (Try.prog.funcs[35]?).any (fun fn => fn.body.isSome && fn.name != "runtime.NumGoroutine") = true := by kernel_rfl
theorem any36 : (Try.prog.funcs[36]?).any (fun fn => fn.body.isSome && fn.name != "runtime.NumGoroutine") = true := by kernel_rfl
theorem any37 : (Try.prog.funcs[37]?).any (fun fn => fn.body.isSome && fn.name != "runtime.NumGoroutine") = true := by kernel_rfl
theorem any38 : (Try.prog.funcs[38]?).any (fun fn => fn.body.isSome && fn.name != "runtime.NumGoroutine") = true := by kernel_rfl
theorem any39 : (Try.prog.funcs[39]?).any (fun fn => fn.body.isSome && fn.name != "runtime.NumGoroutine") = true := by kernel_rfl
theorem any40 : (Try.prog.funcs[40]?).any (fun fn => fn.body.isSome && fn.name != "runtime.NumGoroutine") = true := by kernel_rfl
theorem any41 : (Try.prog.funcs[41]?).any (fun fn => fn.body.isSome && fn.name != "runtime.NumGoroutine") = true := by kernel_rfl
theorem any42 : (Try.prog.funcs[42]?).any (fun fn => fn.body.isSome && fn.name != "runtime.NumGoroutine") = true := by kernel_rfl
theorem any43 : (Try.prog.funcs[43]?).any (fun fn => fn.body.isSome && fn.name != "runtime.NumGoroutine") = true := by kernel_rfl
theorem any44 : (Try.prog.funcs[44]?).any (fun fn => fn.body.isSome && fn.name != "runtime.NumGoroutine") = true := by kernel_rfl
theorem any45 : (Try.prog.funcs[45]?).any (fun fn => fn.body.isSome && fn.name != "runtime.NumGoroutine") = true := by kernel_rfl
theorem any46 : (Try.prog.funcs[46]?).any (fun fn => fn.body.isSome && fn.name != "runtime.NumGoroutine") = true := by kernel_rfl
theorem any47 : (Try.prog.funcs[47]?).any (fun fn => fn.body.isSome && fn.name != "runtime.NumGoroutine") = true := by kernel_rfl
theorem any48 : (Try.prog.funcs[48]?).any (fun fn => fn.body.isSome && fn.name != "runtime.NumGoroutine") = true := by kernel_rfl
theorem any49 : (Try.prog.funcs[49]?).any (fun fn => fn.body.isSome && fn.name != "runtime.NumGoroutine") = true := by kernel_rfl
theorem any50 : (Try.prog.funcs[50]?).any (fun fn => fn.body.isSome && fn.name != "runtime.NumGoroutine") = true := by kernel_rfl
theorem any51 : (Try.prog.funcs[51]?).any (fun fn => fn.body.isSome && fn.name != "runtime.NumGoroutine") = true := by kernel_rfl
theorem any52 : (Try.prog.funcs[52]?).any (fun fn => fn.body.isSome && fn.name != "runtime.NumGoroutine") = true := by kernel_rfl
theorem any53 : (Try.prog.funcs[53]?).any (fun fn => fn.body.isSome && fn.name != "runtime.NumGoroutine") = true := by kernel_rfl
theorem any54 : (Try.prog.funcs[54]?).any (fun fn => fn.body.isSome && fn.name != "runtime.NumGoroutine") = true := by kernel_rfl
theorem any55 : (Try.prog.funcs[55]?).any (fun fn => fn.body.isSome && fn.name != "runtime.NumGoroutine") = true := by kernel_rfl
theorem any56 : (Try.prog.funcs[56]?).any (fun fn => fn.body.isSome && fn.name != "runtime.NumGoroutine") = true := by kernel_rfl
theorem any57 : (Try.prog.funcs[57]?).any (fun fn => fn.body.isSome && fn.name != "runtime.NumGoroutine") = true := by kernel_rfl
theorem any58 : (Try.prog.funcs[58]?).any (fun fn => fn.body.isSome && fn.name != "runtime.NumGoroutine") = true := by kernel_rfl
theorem any59 : (Try.prog.funcs[59]?).any (fun fn => fn.body.isSome && fn.name != "runtime.NumGoroutine") = true := by kernel_rfl
theorem any60 : (Try.prog.funcs[60]?).any (fun fn => fn.body.isSome && fn.name != "runtime.NumGoroutine") = true := by kernel_rfl
theorem any61 : (Try.prog.funcs[61]?).any (fun fn => fn.body.isSome && fn.name != "runtime.NumGoroutine") = true := by kernel_rfl
theorem any62 : (Try.prog.funcs[62]?).any (fun fn => fn.body.isSome && fn.name != "runtime.NumGoroutine") = true := by kernel_rfl
theorem any63 : (Try.prog.funcs[63]?).any (fun fn => fn.body.isSome && fn.name != "runtime.NumGoroutine") = true := by kernel_rfl
theorem any64 : (Try.prog.funcs[64]?).any (fun fn => fn.body.isSome && fn.name != "runtime.NumGoroutine") = true := by kernel_rfl
theorem any65 : (Try.prog.funcs[65]?).any (fun fn => fn.body.isSome && fn.name != "runtime.NumGoroutine") = true := by kernel_rfl
theorem any66 : (Try.prog.funcs[66]?).any (fun fn => fn.body.isSome && fn.name != "runtime.NumGoroutine") = true := by kernel_rfl
theorem any67 : (Try.prog.funcs[67]?).any (fun fn => fn.body.isSome && fn.name != "runtime.NumGoroutine") = true := by kernel_rfl
theorem any68 : (Try.prog.funcs[68]?).any (fun fn => fn.body.isSome && fn.name != "runtime.NumGoroutine") = true := by kernel_rfl
theorem any69 : (Try.prog.funcs[69]?).any (fun fn => fn.body.isSome && fn.name != "runtime.NumGoroutine") = true := by kernel_rfl
theorem any70 : (Try.prog.funcs[70]?).any (fun fn => fn.body.isSome && fn.name != "runtime.NumGoroutine") = true := by kernel_rfl
theorem any71 : (Try.prog.funcs[71]?).any (fun fn => fn.body.isSome && fn.name != "runtime.NumGoroutine") = true := by kernel_rfl
theorem any72 : (Try.prog.funcs[72]?).any (fun fn => fn.body.isSome && fn.name != "runtime.NumGoroutine") = true := by kernel_rfl
theorem any73 : (Try.prog.funcs[73]?).any (fun fn => fn.body.isSome && fn.name != "runtime.NumGoroutine") = true := by kernel_rfl
theorem any74 : (Try.prog.funcs[74]?).any (fun fn => fn.body.isSome && fn.name != "runtime.NumGoroutine") = true := by kernel_rfl
theorem any75 : (Try.prog.funcs[75]?).any (fun fn => fn.body.isSome && fn.name != "runtime.NumGoroutine") = true := by kernel_rfl
theorem any76 : (Try.prog.funcs[76]?).any (fun fn => fn.body.isSome && fn.name != "runtime.NumGoroutine") = true := by kernel_rfl
theorem any77 : (Try.prog.funcs[77]?).any (fun fn => fn.body.isSome && fn.name != "runtime.NumGoroutine") = true := by kernel_rfl
theorem any78 : (Try.prog.funcs[78]?).any (fun fn => fn.body.isSome && fn.name != "runtime.NumGoroutine") = true := by kernel_rfl
theorem any79 : (Try.prog.funcs[79]?).any (fun fn => fn.body.isSome && fn.name != "runtime.NumGoroutine") = true := by kernel_rfl
theorem any80 : (Try.prog.funcs[80]?).any (fun fn => fn.body.isSome && fn.name != "runtime.NumGoroutine") = true := by kernel_rfl
theorem any81 : (Try.prog.funcs[81]?).any (fun fn => fn.body.isSome && fn.name != "runtime.NumGoroutine") = true := by kernel_rfl
theorem any82 : (Try.prog.funcs[82]?).any (fun fn => fn.body.isSome && fn.name != "runtime.NumGoroutine") = true := by kernel_rfl
theorem any83 : (Try.prog.funcs[83]?).any (fun fn => fn.body.isSome && fn.name != "runtime.NumGoroutine") = true := by kernel_rfl
theorem any84 : (Try.prog.funcs[84]?).any (fun fn => fn.body.isSome && fn.name != "runtime.NumGoroutine") = true := by kernel_rfl
theorem any85 : (Try.prog.funcs[85]?).any (fun fn => fn.body.isSome && fn.name != "runtime.NumGoroutine") = true := by kernel_rfl
theorem any86 : (Try.prog.funcs[86]?).any (fun fn => fn.body.isSome && fn.name != "runtime.NumGoroutine") = true := by kernel_rfl
theorem any87 : (Try.prog.funcs[87]?).any (fun fn => fn.body.isSome && fn.name != "runtime.NumGoroutine") = true := by kernel_rfl

end Go.Proofs.Ytkngdmilgfgclaa
