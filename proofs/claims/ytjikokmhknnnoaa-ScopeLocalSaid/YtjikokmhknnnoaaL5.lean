/- The law ScopeLocal: regions that draw their order. -/
import Derived.Test.YtjikokmhknnnoaaL1
import Derived.Test.YtjikokmhknnnoaaVs
namespace Go.Proofs.Ytjikokmhknnnoaa
open Go.RowKit

def un7 : ByteArray := ⟨#[117, 110, 117, 115, 101, 100, 55]⟩
theorem un7_name : nameB un7 = true := by decide +kernel
theorem un7_ne : un7.toList ≠ [] := by
 have h := un7_name
 simp only [nameB, zat, decide_eq_true_eq] at h
 exact (ne_of_pos h.1.1.1.1).2
theorem es7 : (if (ByteArray.mk #[117, 110, 117, 115, 101, 100, 55]).size ≤ 9223372036854775807 then some (D.str (ByteArray.mk #[117, 110, 117, 115, 101, 100, 55])) else none) = some (D.str un7) := if_pos (by simp [ByteArray.size])
theorem num_fn : fn EV 37 [.int .i64 0] = some (D.agg [.int .u8 1, .int .i64 0, .str ⟨#[]⟩, .slice .imm 0 []]) := fn_of (n := 200) (by kernel_rfl)
theorem SWp_to {P : Program} {ops : Array Oper} {o : Oper} {σ σ1 σ' : St} (h : SWp P ops o σ σ1) (e : σ1 = σ') : SWp P ops o σ σ' := by rw [← e]; exact h
theorem any37 : (Try.prog.funcs[37]?).any (fun fn => fn.body.isSome && fn.name != "runtime.NumGoroutine") = true := by kernel_rfl
theorem any36 : (Try.prog.funcs[36]?).any (fun fn => fn.body.isSome && fn.name != "runtime.NumGoroutine") = true := by kernel_rfl
theorem any33 : (Try.prog.funcs[33]?).any (fun fn => fn.body.isSome && fn.name != "runtime.NumGoroutine") = true := by kernel_rfl
theorem o_ast_Depth (t : Tr) (h : t.depth ≤ 4611686018427387904) : fn EV 36 [dN t] = some (.int .i64 t.depth) := f_node (f := fun t => if t.depth ≤ 4611686018427387904 then some (.int .i64 t.depth) else none) (fun _ => rfl) (if_pos h)
set_option maxRecDepth 100000 in
set_option maxHeartbeats 4000000 in
theorem block_cal {fr : List D} {B : List (List D)} {nx : Nat} {lv : List Nat} {i : Nat} (hi : i < B.length) (hB : B.all (D.unders B.length) = true) : cal EV 26 [.bsl i 0 4 1] ⟨fr, B, nx, lv⟩ = some (.agg [.int .u8 57, .int .i64 0, .str ⟨#[]⟩, .bsl i 0 4 1], ⟨fr, B, nx, lv⟩) := by
 refine cal_X (σ := ⟨fr, B, nx, lv⟩) rfl Try.func26 rfl (by simp [plain, D.under]) (by simp [D.under, D.unders, hi]) hB ?_
 simp only [enterSt, Try.ntmps26, zlc, zln, Nat.reduceAdd, Nat.reduceSub, zr1, zr0, zca, zna]
 refine X_seq ?_
 refine X_rc fun R hR => ?_
 simp only [EVP, aops, astep, awant, aeff, St.put, zmo, zbs, if_true, zs1, zs0, ty_api_Node]
 with_reducible refine hR _ ?_
 clear hR R
 show X _ _ _ _
 refine X_seq ?_
 refine X_rc fun R hR => ?_
 simp only [EVP, inr_u8, Int.reduceLE, app_get0, app_set0, aops, astep, awant, aeff, aop, afill, astore, ev, ofValue, St.put, gd_int, cl_int, gd_agg, cl_agg, zmc, zmn, zg1, zg0, zgd, zmo, if_true, zs1, zs0, zlc, zln, zd1, zd0, zt1, zt0, zca, zna, Nat.reduceAdd, Nat.reduceLeDiff, Nat.zero_add, and_self, ty_api_Node, st_api_Node, sta_api_Node, gd_bsl, cl_bsl]
 with_reducible refine hR _ ?_
 clear hR R
 show X _ _ _ _
 refine X_ret ?_
 refine ⟨.inr rfl, ?_, ?_, ?_, rfl, rfl⟩
 ·simp only [resD, resAll, resOne, Try.results26, EVP, mkD, ty_api_Node, zg1, zg0, zd0, Nat.zero_add, if_true, D.isAgg]; simp; try rfl
 ·simp
 ·simp
theorem cal_num : ∀ σ, cal EV 37 [.int .i64 0] σ = some (D.agg [.int .u8 1, .int .i64 0, .str ⟨#[]⟩, .slice .imm 0 []], σ) := fun σ => cal_pure num_fn σ
def l9_ops : Array Oper := #[{ dst := some 42, op := Go.Op.call { callee := Go.Callee.value (Go.Operand.func 37), args := #[Go.Operand.const (Go.Value.int Go.IntKind.i64 0)], argTypes := #[3] }, type := 28, pos := "law.go:305", after := #[], guard := none }, { dst := some 43, op := Go.Op.fieldAddr 30 (Go.Operand.tmp 2) 2, type := 0, pos := "law.go:305", after := #[], guard := none }, { dst := some 44, op := Go.Op.load 28 (Go.Operand.tmp 43), type := 28, pos := "law.go:305", after := #[{ on := 1, ground := Go.Ground.data }], guard := none }, { dst := some 45, op := Go.Op.call { callee := Go.Callee.value (Go.Operand.func 37), args := #[Go.Operand.const (Go.Value.int Go.IntKind.i64 0)], argTypes := #[3] }, type := 28, pos := "law.go:305", after := #[{ on := 0, ground := Go.Ground.chain }], guard := none }, { dst := some 46, op := Go.Op.buildSlice 26 3 #[(0, Go.Operand.tmp 42), (1, Go.Operand.tmp 44), (2, Go.Operand.tmp 45)], type := 26, pos := "law.go:305", after := #[{ on := 0, ground := Go.Ground.data }, { on := 2, ground := Go.Ground.data }, { on := 3, ground := Go.Ground.data }], guard := none }, { dst := some 47, op := Go.Op.build 28 #[(0, Go.Operand.const (Go.Value.int Go.IntKind.u8 54)), (2, Go.Operand.const (Go.Value.string { data := #[117, 110, 117, 115, 101, 100, 55] })), (3, Go.Operand.tmp 46)], type := 28, pos := "law.go:305", after := #[{ on := 4, ground := Go.Ground.data }], guard := none }, { dst := some 48, op := Go.Op.buildSlice 26 1 #[(0, Go.Operand.tmp 47)], type := 26, pos := "law.go:305", after := #[{ on := 5, ground := Go.Ground.data }], guard := none }, { dst := some 49, op := Go.Op.call { callee := Go.Callee.value (Go.Operand.func 26), args := #[Go.Operand.tmp 48], argTypes := #[26] }, type := 28, pos := "law.go:305", after := #[{ on := 6, ground := Go.Ground.data }, { on := 3, ground := Go.Ground.chain }], guard := none }, { dst := some 50, op := Go.Op.fieldAddr 30 (Go.Operand.tmp 7) 2, type := 0, pos := "law.go:305", after := #[{ on := 0, ground := Go.Ground.phase }, { on := 1, ground := Go.Ground.phase }, { on := 2, ground := Go.Ground.phase }, { on := 3, ground := Go.Ground.phase }, { on := 4, ground := Go.Ground.phase }, { on := 5, ground := Go.Ground.phase }, { on := 6, ground := Go.Ground.phase }, { on := 7, ground := Go.Ground.phase }], guard := none }, { dst := none, op := Go.Op.store 28 (Go.Operand.tmp 50) (Go.Operand.tmp 49), type := 0, pos := "law.go:305", after := #[{ on := 8, ground := Go.Ground.data }, { on := 7, ground := Go.Ground.data }, { on := 7, ground := Go.Ground.chain }, { on := 0, ground := Go.Ground.phase }, { on := 1, ground := Go.Ground.phase }, { on := 2, ground := Go.Ground.phase }, { on := 3, ground := Go.Ground.phase }, { on := 4, ground := Go.Ground.phase }, { on := 5, ground := Go.Ground.phase }, { on := 6, ground := Go.Ground.phase }, { on := 7, ground := Go.Ground.phase }], guard := none }]
set_option maxRecDepth 100000 in
set_option maxHeartbeats 4000000 in
theorem l9 {a0 a1 a2 a3 a4 a5 : D} {B1 : List D} {Bd : Nat} {x0 x1 x3 x4 x5 x6 x8 x9 x10 x11 x12 x13 x14 x15 x16 x17 x18 x19 x20 x21 x22 x23 x24 x25 x26 x27 x28 x29 x30 x31 x32 x33 x34 x35 x36 x37 x38 x39 x40 x41 x42 x43 x44 x45 x46 x47 x48 x49 x50 x51 x52 x53 x54 x55 x56 x57 x58 x59 x60 x61 x62 x63 x64 x65 x66 x67 x68 x69 x70 x71 x72 x73 x74 x75 x76 x77 x78 x79 x80 x81 x82 x83 x84 x85 x86 x87 x88 x89 x90 x91 x92 x93 x94 x95 x96 x97 x98 x99 x100 x101 x102 x103 x104 x105 x106 x107 x108 x109 x110 x111 x112 x113 x114 x115 x116 x117 x118 x119 x120 x121 x122 x123 x124 x125 x126 x127 x128 x129 x130 x131 x132 x133 x134 x135 x136 x137 x138 x139 x140 x141 x142 x143 x144 x145 x146 x147 x148 x149 x150 x151 x152 x153 x154 x155 x156 x157 x158 x159 x160 x161 x162 x163 x164 x165 x166 x167 x168 x169 x170 x171 x172 x173 x174 x175 x176 x177 x178 x179 x180 : D} {Q : Ex → St → Prop}
  (_ga0 : a0.good = true) (_ga1 : a1.good = true) (_ga2 : a2.good = true) (_ga3 : a3.good = true) (_ga4 : a4.good = true) (_ga5 : a5.good = true) (hB : ([[a0, a1, a2, a3, a4, a5], B1, [a0, a1, a2, a3, a4, a5], [.int .u8 54, .int .i64 0, .str un7, .slice (.own 0 28) 4 [D.agg [.int .u8 1, .int .i64 0, .str ⟨#[]⟩, .slice .imm 0 []], .agg [a2, a3, a4, a5], D.agg [.int .u8 1, .int .i64 0, .str ⟨#[]⟩, .slice .imm 0 []]]]] : List (List D)).all (D.unders 4) = true)
  (hq : Q .normal ⟨[x0, x1, .ptr 0 0, x3, x4, x5, x6, .ptr 2 0, x8, x9, x10, x11, x12, x13, x14, x15, x16, x17, x18, x19, x20, x21, x22, x23, x24, x25, x26, x27, x28, x29, x30, x31, x32, x33, x34, x35, x36, x37, x38, x39, x40, x41, D.agg [.int .u8 1, .int .i64 0, .str ⟨#[]⟩, .slice .imm 0 []], .ptr 0 2, .agg [a2, a3, a4, a5], D.agg [.int .u8 1, .int .i64 0, .str ⟨#[]⟩, .slice .imm 0 []], .slice (.own 0 28) 4 [D.agg [.int .u8 1, .int .i64 0, .str ⟨#[]⟩, .slice .imm 0 []], .agg [a2, a3, a4, a5], D.agg [.int .u8 1, .int .i64 0, .str ⟨#[]⟩, .slice .imm 0 []]], .agg [.int .u8 54, .int .i64 0, .str un7, .slice (.own 0 28) 4 [D.agg [.int .u8 1, .int .i64 0, .str ⟨#[]⟩, .slice .imm 0 []], .agg [a2, a3, a4, a5], D.agg [.int .u8 1, .int .i64 0, .str ⟨#[]⟩, .slice .imm 0 []]]], .bsl 3 0 4 1, .agg [.int .u8 57, .int .i64 0, .str ⟨#[]⟩, .bsl 3 0 4 1], .ptr 2 2, x51, x52, x53, x54, x55, x56, x57, x58, x59, x60, x61, x62, x63, x64, x65, x66, x67, x68, x69, x70, x71, x72, x73, x74, x75, x76, x77, x78, x79, x80, x81, x82, x83, x84, x85, x86, x87, x88, x89, x90, x91, x92, x93, x94, x95, x96, x97, x98, x99, x100, x101, x102, x103, x104, x105, x106, x107, x108, x109, x110, x111, x112, x113, x114, x115, x116, x117, x118, x119, x120, x121, x122, x123, x124, x125, x126, x127, x128, x129, x130, x131, x132, x133, x134, x135, x136, x137, x138, x139, x140, x141, x142, x143, x144, x145, x146, x147, x148, x149, x150, x151, x152, x153, x154, x155, x156, x157, x158, x159, x160, x161, x162, x163, x164, x165, x166, x167, x168, x169, x170, x171, x172, x173, x174, x175, x176, x177, x178, x179, x180], [[a0, a1, a2, a3, a4, a5], B1, [a0, a1, .int .u8 57, .int .i64 0, .str ⟨#[]⟩, .bsl 3 0 4 1], [.int .u8 54, .int .i64 0, .str un7, .slice (.own 0 28) 4 [D.agg [.int .u8 1, .int .i64 0, .str ⟨#[]⟩, .slice .imm 0 []], .agg [a2, a3, a4, a5], D.agg [.int .u8 1, .int .i64 0, .str ⟨#[]⟩, .slice .imm 0 []]]]], 1, [0]⟩) :
  S Try.prog Bd (.region 9 l9_ops true) ⟨[x0, x1, .ptr 0 0, x3, x4, x5, x6, .ptr 2 0, x8, x9, x10, x11, x12, x13, x14, x15, x16, x17, x18, x19, x20, x21, x22, x23, x24, x25, x26, x27, x28, x29, x30, x31, x32, x33, x34, x35, x36, x37, x38, x39, x40, x41, x42, x43, x44, x45, x46, x47, x48, x49, x50, x51, x52, x53, x54, x55, x56, x57, x58, x59, x60, x61, x62, x63, x64, x65, x66, x67, x68, x69, x70, x71, x72, x73, x74, x75, x76, x77, x78, x79, x80, x81, x82, x83, x84, x85, x86, x87, x88, x89, x90, x91, x92, x93, x94, x95, x96, x97, x98, x99, x100, x101, x102, x103, x104, x105, x106, x107, x108, x109, x110, x111, x112, x113, x114, x115, x116, x117, x118, x119, x120, x121, x122, x123, x124, x125, x126, x127, x128, x129, x130, x131, x132, x133, x134, x135, x136, x137, x138, x139, x140, x141, x142, x143, x144, x145, x146, x147, x148, x149, x150, x151, x152, x153, x154, x155, x156, x157, x158, x159, x160, x161, x162, x163, x164, x165, x166, x167, x168, x169, x170, x171, x172, x173, x174, x175, x176, x177, x178, x179, x180], [[a0, a1, a2, a3, a4, a5], B1, [a0, a1, a2, a3, a4, a5]], 0, []⟩ Q := by
 refine S_any rfl (fun L => ⟨[x0, x1, .ptr 0 0, x3, x4, x5, x6, .ptr 2 0, x8, x9, x10, x11, x12, x13, x14, x15, x16, x17, x18, x19, x20, x21, x22, x23, x24, x25, x26, x27, x28, x29, x30, x31, x32, x33, x34, x35, x36, x37, x38, x39, x40, x41, (if L 0 = true then D.agg [.int .u8 1, .int .i64 0, .str ⟨#[]⟩, .slice .imm 0 []] else x42), (if L 1 = true then .ptr 0 2 else x43), (if L 2 = true then .agg [a2, a3, a4, a5] else x44), (if L 3 = true then D.agg [.int .u8 1, .int .i64 0, .str ⟨#[]⟩, .slice .imm 0 []] else x45), (if L 4 = true then .slice (.own 0 28) 4 [D.agg [.int .u8 1, .int .i64 0, .str ⟨#[]⟩, .slice .imm 0 []], .agg [a2, a3, a4, a5], D.agg [.int .u8 1, .int .i64 0, .str ⟨#[]⟩, .slice .imm 0 []]] else x46), (if L 5 = true then .agg [.int .u8 54, .int .i64 0, .str un7, .slice (.own 0 28) 4 [D.agg [.int .u8 1, .int .i64 0, .str ⟨#[]⟩, .slice .imm 0 []], .agg [a2, a3, a4, a5], D.agg [.int .u8 1, .int .i64 0, .str ⟨#[]⟩, .slice .imm 0 []]]] else x47), (if L 6 = true then .bsl 3 0 4 1 else x48), (if L 7 = true then .agg [.int .u8 57, .int .i64 0, .str ⟨#[]⟩, .bsl 3 0 4 1] else x49), (if L 8 = true then .ptr 2 2 else x50), x51, x52, x53, x54, x55, x56, x57, x58, x59, x60, x61, x62, x63, x64, x65, x66, x67, x68, x69, x70, x71, x72, x73, x74, x75, x76, x77, x78, x79, x80, x81, x82, x83, x84, x85, x86, x87, x88, x89, x90, x91, x92, x93, x94, x95, x96, x97, x98, x99, x100, x101, x102, x103, x104, x105, x106, x107, x108, x109, x110, x111, x112, x113, x114, x115, x116, x117, x118, x119, x120, x121, x122, x123, x124, x125, x126, x127, x128, x129, x130, x131, x132, x133, x134, x135, x136, x137, x138, x139, x140, x141, x142, x143, x144, x145, x146, x147, x148, x149, x150, x151, x152, x153, x154, x155, x156, x157, x158, x159, x160, x161, x162, x163, x164, x165, x166, x167, x168, x169, x170, x171, x172, x173, x174, x175, x176, x177, x178, x179, x180], [[a0, a1, a2, a3, a4, a5], B1, (if L 9 = true then [a0, a1, .int .u8 57, .int .i64 0, .str ⟨#[]⟩, .bsl 3 0 4 1] else [a0, a1, a2, a3, a4, a5])] ++ (if L 6 = true then [[.int .u8 54, .int .i64 0, .str un7, .slice (.own 0 28) 4 [D.agg [.int .u8 1, .int .i64 0, .str ⟨#[]⟩, .slice .imm 0 []], .agg [a2, a3, a4, a5], D.agg [.int .u8 1, .int .i64 0, .str ⟨#[]⟩, .slice .imm 0 []]]]] else []), (if L 4 = true then 1 else 0), (if L 4 = true then [0] else [])⟩) ?_ ?_ ?_ ?_
 ·simp only [zft, if_false, List.append_nil]
 ·intro j o ho
  have hj : j < 10 := (Array.getElem?_eq_some_iff.1 ho).1
  match j, hj, ho with
  | 0, _, ho =>
   simp only [l9_ops, List.getElem?_toArray, zg0, Option.some.injEq] at ho
   subst ho; decide
  | 1, _, ho =>
   simp only [l9_ops, List.getElem?_toArray, zg0, zg1, Option.some.injEq] at ho
   subst ho; decide
  | 2, _, ho =>
   simp only [l9_ops, List.getElem?_toArray, zg0, zg1, Option.some.injEq] at ho
   subst ho; decide
  | 3, _, ho =>
   simp only [l9_ops, List.getElem?_toArray, zg0, zg1, Option.some.injEq] at ho
   subst ho; decide
  | 4, _, ho =>
   simp only [l9_ops, List.getElem?_toArray, zg0, zg1, Option.some.injEq] at ho
   subst ho; decide
  | 5, _, ho =>
   simp only [l9_ops, List.getElem?_toArray, zg0, zg1, Option.some.injEq] at ho
   subst ho; decide
  | 6, _, ho =>
   simp only [l9_ops, List.getElem?_toArray, zg0, zg1, Option.some.injEq] at ho
   subst ho; decide
  | 7, _, ho =>
   simp only [l9_ops, List.getElem?_toArray, zg0, zg1, Option.some.injEq] at ho
   subst ho; decide
  | 8, _, ho =>
   simp only [l9_ops, List.getElem?_toArray, zg0, zg1, Option.some.injEq] at ho
   subst ho; decide
  | 9, _, ho =>
   simp only [l9_ops, List.getElem?_toArray, zg0, zg1, Option.some.injEq] at ho
   subst ho; decide
 ·intro L i o ho hun hcl hall
  have hi : i < 10 := (Array.getElem?_eq_some_iff.1 ho).1
  match i, hi, ho, hun, hall with
  | 0, _, ho, hun, hall =>
   simp only [l9_ops, List.getElem?_toArray, zg0, Option.some.injEq] at ho
   subst ho
   refine SWp_ca (CaOk.cal EV_ok) (by kernel_rfl) ?_
   simp only [astep, awant, aeff, EVP, inr_i64, Int.reduceLE, Int.reduceNeg, astep, awant, aeff, ev, ofValue, St.put, zmc, zmn, zgd, zmo, if_true, zs1, zs0, zca, zna, zft, if_false, and_self, reduceCtorEq, any37, cal_num, any37, hun, if_true, if_false, zft, List.append_nil, zca, zna, reduceCtorEq]
   try rfl
  | 1, _, ho, hun, hall =>
   simp only [l9_ops, List.getElem?_toArray, zg0, zg1, Option.some.injEq] at ho
   subst ho
   refine SWp_ca (CaOk.cal EV_ok) (by kernel_rfl) ?_
   simp only [astep, awant, aeff, EVP, astep, awant, aeff, aop, ev, St.put, zg1, zg0, zgd, zmo, if_true, zs1, zs0, zca, zna, Nat.zero_add, zft, if_false, reduceCtorEq, ty_api_Program, hun, if_true, if_false, zft, zca, zna, Nat.reduceEqDiff, reduceCtorEq]
   try rfl
  | 2, _, ho, hun, hall =>
   simp only [l9_ops, List.getElem?_toArray, zg0, zg1, Option.some.injEq] at ho
   subst ho
   have e1 : L 1 = true := hall ⟨1, .data⟩ (by simp) rfl
   refine SWp_ca (CaOk.cal EV_ok) (by kernel_rfl) ?_
   simp only [astep, awant, aeff, EVP, astep, awant, aeff, aop, mkD, ev, St.put, zg1, zg0, zgd, zmo, if_true, zs1, zs0, zlc, zln, zd1, zd0, zt1, zt0, zca, zna, Nat.reduceAdd, Nat.reduceLeDiff, Nat.zero_add, zft, if_false, reduceCtorEq, ty_api_Node, hun, e1, if_true, if_false, zft, zca, zna, Nat.reduceEqDiff, reduceCtorEq, zlc, zln]
   try rfl
  | 3, _, ho, hun, hall =>
   simp only [l9_ops, List.getElem?_toArray, zg0, zg1, Option.some.injEq] at ho
   subst ho
   have e0 : L 0 = true := hall ⟨0, .chain⟩ (by simp) rfl
   refine SWp_ca (CaOk.cal EV_ok) (by kernel_rfl) ?_
   simp only [astep, awant, aeff, EVP, inr_i64, Int.reduceLE, Int.reduceNeg, astep, awant, aeff, ev, ofValue, St.put, zmc, zmn, zgd, zmo, if_true, zs1, zs0, zca, zna, zft, if_false, and_self, reduceCtorEq, any37, cal_num, any37, hun, e0, if_true, if_false, zft, List.append_nil, zca, zna, Nat.reduceEqDiff, reduceCtorEq]
   try rfl
  | 4, _, ho, hun, hall =>
   simp only [l9_ops, List.getElem?_toArray, zg0, zg1, Option.some.injEq] at ho
   subst ho
   have e0 : L 0 = true := hall ⟨0, .data⟩ (by simp) rfl
   have e2 : L 2 = true := hall ⟨2, .data⟩ (by simp) rfl
   have e3 : L 3 = true := hall ⟨3, .data⟩ (by simp) rfl
   refine SWp_ca (CaOk.cal EV_ok) (by kernel_rfl) ?_
   simp only [astep, awant, aeff, EVP, astep, awant, aeff, abuild, ev, ofValue, St.put, gd_agg, cl_agg, zmc, zmn, zg1, zg0, zgd, zmo, if_true, zs1, zs0, zlc, zln, zca, zna, Nat.reduceAdd, Nat.reduceLeDiff, Nat.reduceLT, Nat.zero_add, Bool.and_true, zft, if_false, and_self, reduceCtorEq, List.all_cons, List.all_nil, beq_self_eq_true, Nat.reduceMul, rng_3, und_api_Node, inf_api_Node_eq, inf_api_Node_size, inf_api_Node_zero, hun, e0, e2, e3, if_true, if_false, zft, zca, zna, Nat.reduceEqDiff, reduceCtorEq, zlc, zln]
   try rfl
  | 5, _, ho, hun, hall =>
   simp only [l9_ops, List.getElem?_toArray, zg0, zg1, Option.some.injEq] at ho
   subst ho
   have e4 : L 4 = true := hall ⟨4, .data⟩ (by simp) rfl
   refine SWp_ca (CaOk.cal EV_ok) (by kernel_rfl) ?_
   simp only [astep, awant, aeff, EVP, inr_u8, Int.reduceLE, astep, awant, aeff, aop, afill, ev, ofValue, St.put, gd_int, cl_int, gd_str, cl_str, gd_slice, cl_slice, zmc, zmn, zg1, zg0, zgd, zmo, if_true, zs1, zs0, zlc, zln, zd1, zd0, zt1, zt0, zca, zna, Nat.reduceAdd, Nat.reduceLeDiff, Nat.zero_add, zft, if_false, and_self, reduceCtorEq, ty_api_Node, st_api_Node, sta_api_Node, es7, hun, e4, if_true, if_false, zft, List.append_nil, zca, zna, Nat.reduceEqDiff, reduceCtorEq, zlc, zln]
   try rfl
  | 6, _, ho, hun, hall =>
   simp only [l9_ops, List.getElem?_toArray, zg0, zg1, Option.some.injEq] at ho
   subst ho
   have e5 : L 5 = true := hall ⟨5, .data⟩ (by simp) rfl
   refine SWp_to (SWp_row1 (P := Try.prog) (z := (inf_api_Node.zero).get inf_api_Node_zero) (l := [.int .u8 54, .int .i64 0, .str un7, .slice (.own 0 28) 4 [D.agg [.int .u8 1, .int .i64 0, .str ⟨#[]⟩, .slice .imm 0 []], .agg [a2, a3, a4, a5], D.agg [.int .u8 1, .int .i64 0, .str ⟨#[]⟩, .slice .imm 0 []]]]) rfl rfl und_api_Node inf_api_Node_eq (by simp) (by rw [inf_api_Node_size]; decide) (by rw [inf_api_Node_size]; decide) ?_ ?_) ?_
   ·simp only [ev, e5, if_true, zg1, zg0, zgd]
   ·rw [inf_api_Node_size]; rfl
   ·simp only [St.put, if_true, zs1, zs0, zlc, zln, zca, zna, Nat.reduceAdd, Nat.zero_add, zft, if_false, reduceCtorEq, inf_api_Node_size, hun, e5, if_true, if_false, zft, List.append_nil, zca, zna, Nat.reduceEqDiff, reduceCtorEq, zlc, zln]
  | 7, _, ho, hun, hall =>
   simp only [l9_ops, List.getElem?_toArray, zg0, zg1, Option.some.injEq] at ho
   subst ho
   have e6 : L 6 = true := hall ⟨6, .data⟩ (by simp) rfl
   have e3 : L 3 = true := hall ⟨3, .chain⟩ (by simp) rfl
   have h9 : L 9 = false := by
    cases q9 : L 9 with
    | false => rfl
    | true =>
     obtain ⟨o9, ho9⟩ : ∃ o, l9_ops[9]? = some o := ⟨_, rfl⟩
     have h79 : ∀ o, l9_ops[9]? = some o → (⟨7, .data⟩ : Edge) ∈ o.after := by
      intro o ho
      simp only [l9_ops, List.getElem?_toArray, zg0, zg1, Option.some.injEq] at ho
      subst ho; simp
     exact absurd (hcl 9 o9 ho9 q9 _ (h79 o9 ho9) rfl) (by rw [hun]; simp)
   have hb := fun fr nx lv => block_cal (fr := fr) (nx := nx) (lv := lv) (i := 3) (B := [[a0, a1, a2, a3, a4, a5], B1, [a0, a1, a2, a3, a4, a5], [.int .u8 54, .int .i64 0, .str un7, .slice (.own 0 28) 4 [D.agg [.int .u8 1, .int .i64 0, .str ⟨#[]⟩, .slice .imm 0 []], .agg [a2, a3, a4, a5], D.agg [.int .u8 1, .int .i64 0, .str ⟨#[]⟩, .slice .imm 0 []]]]]) (by simp) hB
   refine SWp_ca (CaOk.cal EV_ok) (by kernel_rfl) ?_
   simp only [astep, awant, aeff, EVP, astep, awant, aeff, ev, St.put, zmc, zmn, zg1, zg0, zgd, zmo, if_true, zs1, zs0, zca, zna, zft, if_false, reduceCtorEq, any26, hb, any26, h9, hun, e6, e3, if_true, if_false, zft, List.append_nil, zca, zna, Nat.reduceEqDiff, reduceCtorEq]
   try rfl
  | 8, _, ho, hun, hall =>
   simp only [l9_ops, List.getElem?_toArray, zg0, zg1, Option.some.injEq] at ho
   subst ho
   refine SWp_ca (CaOk.cal EV_ok) (by kernel_rfl) ?_
   simp only [astep, awant, aeff, EVP, astep, awant, aeff, aop, ev, St.put, zg1, zg0, zgd, zmo, if_true, zs1, zs0, zca, zna, Nat.zero_add, zft, if_false, reduceCtorEq, ty_api_Program, hun, if_true, if_false, zft, zca, zna, Nat.reduceEqDiff, reduceCtorEq]
   try rfl
  | 9, _, ho, hun, hall =>
   simp only [l9_ops, List.getElem?_toArray, zg0, zg1, Option.some.injEq] at ho
   subst ho
   have e8 : L 8 = true := hall ⟨8, .data⟩ (by simp) rfl
   have e7 : L 7 = true := hall ⟨7, .data⟩ (by simp) rfl
   refine SWp_ca (CaOk.cal EV_ok) (by kernel_rfl) ?_
   simp only [astep, awant, aeff, EVP, astep, awant, aeff, astore, ev, St.put, gd_agg, cl_agg, zg1, zg0, zgd, zmo, if_true, zs1, zs0, zlc, zln, zd1, zd0, zt1, zt0, zca, zna, Nat.reduceAdd, Nat.reduceLeDiff, Nat.zero_add, zft, if_false, and_self, reduceCtorEq, ty_api_Node, hun, e8, e7, if_true, if_false, zft, List.append_nil, zca, zna, Nat.reduceEqDiff, reduceCtorEq, zlc, zln]
   try rfl
 ·intro L hL
  have e : ∀ j, j < 10 → L j = true := hL
  simp only [e 0 (by decide), e 1 (by decide), e 2 (by decide), e 3 (by decide), e 4 (by decide), e 5 (by decide), e 6 (by decide), e 7 (by decide), e 8 (by decide), e 9 (by decide), if_true, zca, zna]
  exact hq
def l10_ops : Array Oper := #[{ dst := some 51, op := Go.Op.load 30 (Go.Operand.tmp 2), type := 30, pos := "law.go:306", after := #[], guard := none }, { dst := some 52, op := Go.Op.call { callee := Go.Callee.value (Go.Operand.func 18), args := #[Go.Operand.tmp 51], argTypes := #[30] }, type := 40, pos := "law.go:306", after := #[{ on := 0, ground := Go.Ground.data }], guard := none }, { dst := some 53, op := Go.Op.load 30 (Go.Operand.tmp 7), type := 30, pos := "law.go:306", after := #[], guard := none }, { dst := some 54, op := Go.Op.call { callee := Go.Callee.value (Go.Operand.func 18), args := #[Go.Operand.tmp 53], argTypes := #[30] }, type := 40, pos := "law.go:306", after := #[{ on := 2, ground := Go.Ground.data }, { on := 1, ground := Go.Ground.chain }], guard := none }, { dst := some 8, op := Go.Op.assign (Go.Operand.tmp 52), type := 40, pos := "law.go:306", after := #[{ on := 1, ground := Go.Ground.data }, { on := 3, ground := Go.Ground.chain }, { on := 0, ground := Go.Ground.phase }, { on := 1, ground := Go.Ground.phase }, { on := 2, ground := Go.Ground.textOnly Go.Departure.lateStores }, { on := 3, ground := Go.Ground.textOnly Go.Departure.lateStoresUnsure }], guard := none }, { dst := some 9, op := Go.Op.assign (Go.Operand.tmp 54), type := 40, pos := "law.go:306", after := #[{ on := 3, ground := Go.Ground.data }, { on := 4, ground := Go.Ground.chain }, { on := 0, ground := Go.Ground.phase }, { on := 1, ground := Go.Ground.phase }, { on := 2, ground := Go.Ground.phase }, { on := 3, ground := Go.Ground.phase }, { on := 4, ground := Go.Ground.phase }], guard := none }]
set_option maxRecDepth 100000 in
set_option maxHeartbeats 4000000 in
theorem l10 {ca : Nat → List D → St → Option (D × St)} (hca : CaOk Try.prog ca) {a0 a1 a2 a3 a4 a5 l m : D} {B1 R3 : List D} {tl : List (List D)} {nx : Nat} {lv : List Nat} {Bd : Nat} {x0 x1 x3 x4 x5 x6 x8 x9 x10 x11 x12 x13 x14 x15 x16 x17 x18 x19 x20 x21 x22 x23 x24 x25 x26 x27 x28 x29 x30 x31 x32 x33 x34 x35 x36 x37 x38 x39 x40 x41 x42 x43 x44 x45 x46 x47 x48 x49 x50 x51 x52 x53 x54 x55 x56 x57 x58 x59 x60 x61 x62 x63 x64 x65 x66 x67 x68 x69 x70 x71 x72 x73 x74 x75 x76 x77 x78 x79 x80 x81 x82 x83 x84 x85 x86 x87 x88 x89 x90 x91 x92 x93 x94 x95 x96 x97 x98 x99 x100 x101 x102 x103 x104 x105 x106 x107 x108 x109 x110 x111 x112 x113 x114 x115 x116 x117 x118 x119 x120 x121 x122 x123 x124 x125 x126 x127 x128 x129 x130 x131 x132 x133 x134 x135 x136 x137 x138 x139 x140 x141 x142 x143 x144 x145 x146 x147 x148 x149 x150 x151 x152 x153 x154 x155 x156 x157 x158 x159 x160 x161 x162 x163 x164 x165 x166 x167 x168 x169 x170 x171 x172 x173 x174 x175 x176 x177 x178 x179 x180 : D} {Q : Ex → St → Prop}
  (_ga0 : a0.good = true) (_ga1 : a1.good = true) (_ga2 : a2.good = true) (_ga3 : a3.good = true) (_ga4 : a4.good = true) (_ga5 : a5.good = true) (h1 : ∀ fr, ca 18 [.agg [a0, a1, a2, a3, a4, a5]] ⟨fr, [[a0, a1, a2, a3, a4, a5], B1, [a0, a1, .int .u8 57, .int .i64 0, .str ⟨#[]⟩, .bsl 3 0 4 1], R3], nx, lv⟩ = some (l, ⟨fr, [a0, a1, a2, a3, a4, a5] :: B1 :: [a0, a1, .int .u8 57, .int .i64 0, .str ⟨#[]⟩, .bsl 3 0 4 1] :: R3 :: tl, nx, lv⟩)) (h3 : ∀ fr, ca 18 [.agg [a0, a1, .int .u8 57, .int .i64 0, .str ⟨#[]⟩, .bsl 3 0 4 1]] ⟨fr, [a0, a1, a2, a3, a4, a5] :: B1 :: [a0, a1, .int .u8 57, .int .i64 0, .str ⟨#[]⟩, .bsl 3 0 4 1] :: R3 :: tl, nx, lv⟩ = some (m, ⟨fr, [a0, a1, a2, a3, a4, a5] :: B1 :: [a0, a1, .int .u8 57, .int .i64 0, .str ⟨#[]⟩, .bsl 3 0 4 1] :: R3 :: tl, nx, lv⟩))
  (hq : Q .normal ⟨[x0, x1, .ptr 0 0, x3, x4, x5, x6, .ptr 2 0, l, m, x10, x11, x12, x13, x14, x15, x16, x17, x18, x19, x20, x21, x22, x23, x24, x25, x26, x27, x28, x29, x30, x31, x32, x33, x34, x35, x36, x37, x38, x39, x40, x41, x42, x43, x44, x45, x46, x47, x48, x49, x50, .agg [a0, a1, a2, a3, a4, a5], l, .agg [a0, a1, .int .u8 57, .int .i64 0, .str ⟨#[]⟩, .bsl 3 0 4 1], m, x55, x56, x57, x58, x59, x60, x61, x62, x63, x64, x65, x66, x67, x68, x69, x70, x71, x72, x73, x74, x75, x76, x77, x78, x79, x80, x81, x82, x83, x84, x85, x86, x87, x88, x89, x90, x91, x92, x93, x94, x95, x96, x97, x98, x99, x100, x101, x102, x103, x104, x105, x106, x107, x108, x109, x110, x111, x112, x113, x114, x115, x116, x117, x118, x119, x120, x121, x122, x123, x124, x125, x126, x127, x128, x129, x130, x131, x132, x133, x134, x135, x136, x137, x138, x139, x140, x141, x142, x143, x144, x145, x146, x147, x148, x149, x150, x151, x152, x153, x154, x155, x156, x157, x158, x159, x160, x161, x162, x163, x164, x165, x166, x167, x168, x169, x170, x171, x172, x173, x174, x175, x176, x177, x178, x179, x180], [a0, a1, a2, a3, a4, a5] :: B1 :: [a0, a1, .int .u8 57, .int .i64 0, .str ⟨#[]⟩, .bsl 3 0 4 1] :: R3 :: tl, nx, lv⟩) :
  S Try.prog Bd (.region 10 l10_ops true) ⟨[x0, x1, .ptr 0 0, x3, x4, x5, x6, .ptr 2 0, x8, x9, x10, x11, x12, x13, x14, x15, x16, x17, x18, x19, x20, x21, x22, x23, x24, x25, x26, x27, x28, x29, x30, x31, x32, x33, x34, x35, x36, x37, x38, x39, x40, x41, x42, x43, x44, x45, x46, x47, x48, x49, x50, x51, x52, x53, x54, x55, x56, x57, x58, x59, x60, x61, x62, x63, x64, x65, x66, x67, x68, x69, x70, x71, x72, x73, x74, x75, x76, x77, x78, x79, x80, x81, x82, x83, x84, x85, x86, x87, x88, x89, x90, x91, x92, x93, x94, x95, x96, x97, x98, x99, x100, x101, x102, x103, x104, x105, x106, x107, x108, x109, x110, x111, x112, x113, x114, x115, x116, x117, x118, x119, x120, x121, x122, x123, x124, x125, x126, x127, x128, x129, x130, x131, x132, x133, x134, x135, x136, x137, x138, x139, x140, x141, x142, x143, x144, x145, x146, x147, x148, x149, x150, x151, x152, x153, x154, x155, x156, x157, x158, x159, x160, x161, x162, x163, x164, x165, x166, x167, x168, x169, x170, x171, x172, x173, x174, x175, x176, x177, x178, x179, x180], [[a0, a1, a2, a3, a4, a5], B1, [a0, a1, .int .u8 57, .int .i64 0, .str ⟨#[]⟩, .bsl 3 0 4 1], R3], nx, lv⟩ Q := by
 refine S_any rfl (fun L => ⟨[x0, x1, .ptr 0 0, x3, x4, x5, x6, .ptr 2 0, (if L 4 = true then l else x8), (if L 5 = true then m else x9), x10, x11, x12, x13, x14, x15, x16, x17, x18, x19, x20, x21, x22, x23, x24, x25, x26, x27, x28, x29, x30, x31, x32, x33, x34, x35, x36, x37, x38, x39, x40, x41, x42, x43, x44, x45, x46, x47, x48, x49, x50, (if L 0 = true then .agg [a0, a1, a2, a3, a4, a5] else x51), (if L 1 = true then l else x52), (if L 2 = true then .agg [a0, a1, .int .u8 57, .int .i64 0, .str ⟨#[]⟩, .bsl 3 0 4 1] else x53), (if L 3 = true then m else x54), x55, x56, x57, x58, x59, x60, x61, x62, x63, x64, x65, x66, x67, x68, x69, x70, x71, x72, x73, x74, x75, x76, x77, x78, x79, x80, x81, x82, x83, x84, x85, x86, x87, x88, x89, x90, x91, x92, x93, x94, x95, x96, x97, x98, x99, x100, x101, x102, x103, x104, x105, x106, x107, x108, x109, x110, x111, x112, x113, x114, x115, x116, x117, x118, x119, x120, x121, x122, x123, x124, x125, x126, x127, x128, x129, x130, x131, x132, x133, x134, x135, x136, x137, x138, x139, x140, x141, x142, x143, x144, x145, x146, x147, x148, x149, x150, x151, x152, x153, x154, x155, x156, x157, x158, x159, x160, x161, x162, x163, x164, x165, x166, x167, x168, x169, x170, x171, x172, x173, x174, x175, x176, x177, x178, x179, x180], [a0, a1, a2, a3, a4, a5] :: B1 :: [a0, a1, .int .u8 57, .int .i64 0, .str ⟨#[]⟩, .bsl 3 0 4 1] :: R3 :: (if L 1 = true then tl else []), nx, lv⟩) ?_ ?_ ?_ ?_
 ·simp only [zft, if_false]
 ·intro j o ho
  have hj : j < 6 := (Array.getElem?_eq_some_iff.1 ho).1
  match j, hj, ho with
  | 0, _, ho =>
   simp only [l10_ops, List.getElem?_toArray, zg0, Option.some.injEq] at ho
   subst ho; decide
  | 1, _, ho =>
   simp only [l10_ops, List.getElem?_toArray, zg0, zg1, Option.some.injEq] at ho
   subst ho; decide
  | 2, _, ho =>
   simp only [l10_ops, List.getElem?_toArray, zg0, zg1, Option.some.injEq] at ho
   subst ho; decide
  | 3, _, ho =>
   simp only [l10_ops, List.getElem?_toArray, zg0, zg1, Option.some.injEq] at ho
   subst ho; decide
  | 4, _, ho =>
   simp only [l10_ops, List.getElem?_toArray, zg0, zg1, Option.some.injEq] at ho
   subst ho; decide
  | 5, _, ho =>
   simp only [l10_ops, List.getElem?_toArray, zg0, zg1, Option.some.injEq] at ho
   subst ho; decide
 ·intro L i o ho hun hcl hall
  have hi : i < 6 := (Array.getElem?_eq_some_iff.1 ho).1
  match i, hi, ho, hun, hall with
  | 0, _, ho, hun, hall =>
   simp only [l10_ops, List.getElem?_toArray, zg0, Option.some.injEq] at ho
   subst ho
   refine SWp_ca hca (by kernel_rfl) ?_
   simp only [astep, awant, aeff, astep, awant, aeff, aop, mkD, ev, St.put, zg1, zg0, zgd, zmo, if_true, zs1, zs0, zlc, zln, zd0, zt1, zt0, Nat.reduceAdd, Nat.reduceLeDiff, Nat.zero_add, zft, if_false, reduceCtorEq, ty_api_Program, hun, if_true, if_false, zft, reduceCtorEq, zlc, zln]
   try rfl
  | 1, _, ho, hun, hall =>
   simp only [l10_ops, List.getElem?_toArray, zg0, zg1, Option.some.injEq] at ho
   subst ho
   have e0 : L 0 = true := hall ⟨0, .data⟩ (by simp) rfl
   refine SWp_ca hca (by kernel_rfl) ?_
   simp only [astep, awant, aeff, astep, awant, aeff, ev, St.put, zmc, zmn, zg1, zg0, zgd, zmo, if_true, zs1, zs0, zft, if_false, reduceCtorEq, any18, h1, any18, hun, e0, if_true, if_false, zft, List.append_nil, Nat.reduceEqDiff, reduceCtorEq]
   try rfl
  | 2, _, ho, hun, hall =>
   simp only [l10_ops, List.getElem?_toArray, zg0, zg1, Option.some.injEq] at ho
   subst ho
   refine SWp_ca hca (by kernel_rfl) ?_
   simp only [astep, awant, aeff, astep, awant, aeff, aop, mkD, ev, St.put, zg1, zg0, zgd, zmo, if_true, zs1, zs0, zlc, zln, zd0, zt1, zt0, Nat.reduceAdd, Nat.reduceLeDiff, Nat.zero_add, zft, if_false, reduceCtorEq, ty_api_Program, hun, if_true, if_false, zft, Nat.reduceEqDiff, reduceCtorEq, zlc, zln]
   try rfl
  | 3, _, ho, hun, hall =>
   simp only [l10_ops, List.getElem?_toArray, zg0, zg1, Option.some.injEq] at ho
   subst ho
   have e2 : L 2 = true := hall ⟨2, .data⟩ (by simp) rfl
   have e1 : L 1 = true := hall ⟨1, .chain⟩ (by simp) rfl
   refine SWp_ca hca (by kernel_rfl) ?_
   simp only [astep, awant, aeff, astep, awant, aeff, ev, St.put, zmc, zmn, zg1, zg0, zgd, zmo, if_true, zs1, zs0, zft, if_false, reduceCtorEq, any18, h3, any18, hun, e2, e1, if_true, if_false, zft, List.append_nil, Nat.reduceEqDiff, reduceCtorEq]
   try rfl
  | 4, _, ho, hun, hall =>
   simp only [l10_ops, List.getElem?_toArray, zg0, zg1, Option.some.injEq] at ho
   subst ho
   have e1 : L 1 = true := hall ⟨1, .data⟩ (by simp) rfl
   have e3 : L 3 = true := hall ⟨3, .chain⟩ (by simp) rfl
   refine SWp_ca hca (by kernel_rfl) ?_
   simp only [astep, awant, aeff, astep, awant, aeff, aop, ev, St.put, zg1, zg0, zgd, zmo, if_true, zs1, zs0, zft, if_false, reduceCtorEq, hun, e1, e3, if_true, if_false, zft, Nat.reduceEqDiff, reduceCtorEq]
   try rfl
  | 5, _, ho, hun, hall =>
   simp only [l10_ops, List.getElem?_toArray, zg0, zg1, Option.some.injEq] at ho
   subst ho
   have e3 : L 3 = true := hall ⟨3, .data⟩ (by simp) rfl
   have e4 : L 4 = true := hall ⟨4, .chain⟩ (by simp) rfl
   refine SWp_ca hca (by kernel_rfl) ?_
   simp only [astep, awant, aeff, astep, awant, aeff, aop, ev, St.put, zg1, zg0, zgd, zmo, if_true, zs1, zs0, zft, if_false, reduceCtorEq, hun, e3, e4, if_true, if_false, zft, Nat.reduceEqDiff, reduceCtorEq]
   try rfl
 ·intro L hL
  have e : ∀ j, j < 6 → L j = true := hL
  simp only [e 0 (by decide), e 1 (by decide), e 2 (by decide), e 3 (by decide), e 4 (by decide), e 5 (by decide), if_true]
  exact hq

end Go.Proofs.Ytjikokmhknnnoaa

/- ScopeLocal: the cells of faults, the first of them moved; the wrapped program with its block in a box; the calls of Check. -/
namespace Go.Proofs.Ytjikokmhknnnoaa
open Go.RowKit

/-- the first j of the faults moved -/
def mpK (N : Int) (vs : List Ft) (j : Nat) : List Ft := (vs.take j).map (mvF N) ++ vs.drop j
theorem mpK_len (N : Int) (vs : List Ft) (j : Nat) : (mpK N vs j).length = vs.length := by
 unfold mpK; rw [zla, zlm, List.length_take, List.length_drop]; omega
theorem mpK_at {N : Int} {vs : List Ft} {j : Nat} (h : j < vs.length) (h' : j < (mpK N vs j).length) : (mpK N vs j)[j] = vs[j] := by
 have : (mpK N vs j)[j]? = some vs[j] := by
  unfold mpK
  rw [List.getElem?_append_right (by simp; omega), zlm, List.length_take, Nat.min_eq_left (Nat.le_of_lt h), Nat.sub_self, List.getElem?_drop, Nat.add_zero, List.getElem?_eq_getElem h]
 exact (List.getElem?_eq_some_iff.1 this).2
theorem mpK_step {N : Int} {vs : List Ft} {j : Nat} (h : j < vs.length) : (mpK N vs j).set j (mvF N vs[j]) = mpK N vs (j + 1) := by
 unfold mpK
 rw [List.set_append_right _ _ (by simp; omega), List.drop_eq_getElem_cons h, List.take_succ_eq_append_getElem h, List.map_append]
 simp [Nat.min_eq_left (Nat.le_of_lt h)]
 rw [List.drop_eq_getElem_cons h, zs0]
theorem mpK_all (N : Int) (vs : List Ft) : mpK N vs vs.length = vs.map (mvF N) := by unfold mpK; simp
theorem mpK_no {N : Int} {vs : List Ft} {j : Nat} (h : j < vs.length) (hn : (vs[j].proc == N) = false) : mpK N vs (j + 1) = mpK N vs j := by
 have hk : j < (mpK N vs j).length := by rw [mpK_len]; exact h
 rw [← mpK_step h, mvF_no hn, ← mpK_at h hk, List.set_getElem_self]
theorem cF_getP {l : List Ft} {j : Nat} (h : j < l.length) : ((cF l).drop (j * 4 + 1)).take 1 = [sl 1 (l[j].path.map dI)] := by
 rw [← List.drop_drop, cF_at l j h]; rfl
theorem cF_setP : ∀ (l : List Ft) (j : Nat) (h : j < l.length) (c : List Int), (cF l).take (j * 4 + 1) ++ sl 1 (c.map dI) :: (cF l).drop (j * 4 + 1 + 1) = cF (l.set j ⟨l[j].proc, c, l[j].err, l[j].name⟩)
 | [], _, h, _ => absurd h (Nat.not_lt_zero _)
 | v :: l, 0, _, c => rfl
 | v :: l, j + 1, h, c => by
  have ih := cF_setP l j (by simpa using h) c
  rw [cF_cons, show (j + 1) * 4 + 1 = j * 4 + 1 + 4 from by omega, show j * 4 + 1 + 4 + 1 = (j * 4 + 1 + 1) + 4 from by omega]
  simp only [zt1, zd1, List.getElem_cons_succ, zs1, cF_cons, zca, ih]
/-- slots that a freezing of box i can turn -/
def BG (i N : Nat) (d : D) : Prop := d.avoid i = true ∨ d = .bsl i 0 4 N ∨ ∃ k, k < N ∧ (d = .bsl i (k * 4) 0 0 ∨ d = .bsl i (k * 4 + 1) 0 0)
theorem BG.fz {i : Nat} {l : List Ft} {d : D} (h : BG i l.length d) : ∃ d', Fz i (cF l) d d' := by
 rcases h with h | rfl | ⟨k, hk, rfl | rfl⟩
 ·exact ⟨d, .keep d h⟩
 ·exact ⟨_, Fz.row (l := l.map dFt) rfl (by simp) (by omega) (dFt_len l)⟩
 ·exact ⟨_, Fz.cell (l := l.map dFt) (k := k) rfl rfl (by simpa using hk) (dFt_len l)⟩
 ·exact ⟨_, Fz.bpt (k * 4 + 1) 0 1 (sl 1 (l[k].path.map dI)) (by rw [cF_getP hk]; rfl) (by rw [cF_len]; omega)⟩
inductive BGL (i N : Nat) : List D → Prop
 | nil : BGL i N []
 | cons {d : D} {l : List D} (h : BG i N d) (t : BGL i N l) : BGL i N (d :: l)
theorem BGL.at {i N : Nat} {l : List D} (h : BGL i N l) : ∀ t : Nat, BG i N (nthD l t) := by
 induction h with
 | nil => intro t; exact .inl rfl
 | cons h _ ih =>
  intro t
  cases t with
  | zero => exact h
  | succ t => exact ih t
theorem BGL.slot {i N : Nat} {fr : List D} {bx : List (List D)} {nx : Nat} {lv : List Nat} (h : BGL i N fr) : ∀ t, BG i N (slotOf ⟨fr, bx, nx, lv⟩ t) := h.at

/-- the node around the main block -/
def nW (p : Pg) (nm : ByteArray) (s : Nat) : List D := [.int .u8 54, .int .i64 0, .str nm, .slice (.own s 28) 4 [.agg [.int .u8 1, .int .i64 0, .str ⟨#[]⟩, .slice .imm 0 []], dN p.main, .agg [.int .u8 1, .int .i64 0, .str ⟨#[]⟩, .slice .imm 0 []]]]
def gQ (p : Pg) (nm : ByteArray) (s : Nat) : D := .agg [sl 3 (p.vars.map dV), sl 6 (p.procs.map dP), .int .u8 57, .int .i64 0, .str ⟨#[]⟩, .slice .imm 4 [.agg (nW p nm s)]]
theorem z0_eq : D.agg [.int .u8 1, .int .i64 0, .str ⟨#[]⟩, .slice .imm 0 []] = dN z0 := by rw [dN_eq]; rfl
theorem nW_eq (p : Pg) (nm : ByteArray) (s : Nat) : nW p nm s = [.int .u8 54, .int .i64 0, .str nm, .slice (.own s 28) 4 [dN z0, dN p.main, dN z0]] := by
 unfold nW; rw [z0_eq]
theorem nW_strip (p : Pg) (nm : ByteArray) (s : Nat) : (D.agg (nW p nm s)).strip = dN (locT nm p.main) := by
 rw [nW_eq, dN_eq]
 simp only [D.strip, D.strips, dN_strip, Own.st]
 rfl
theorem gQ_strip (p : Pg) (nm : ByteArray) (s : Nat) : (gQ p nm s).strip = dG (wrapP nm p) := by
 unfold gQ
 rw [agg6_strip, sl_strip (map_strip dV_strip _), sl_strip (map_strip dP_strip _)]
 have : (D.slice .imm 4 [.agg (nW p nm s)]).strip = sl 4 [dN (locT nm p.main)] := by
  simp only [D.strip, D.strips]
  have h := nW_strip p nm s
  simp only [D.strip] at h
  rw [h]; rfl
 rw [this]
 rfl
theorem nW_under (p : Pg) (nm : ByteArray) (s m : Nat) : D.unders m (nW p nm s) = true := by
 rw [nW_eq]
 simp only [D.unders, D.under, dN_under, Bool.and_self]
theorem gQ_pl (p : Pg) (nm : ByteArray) (s : Nat) : ((gQ p nm s).under 0 && (gQ p nm s).good) = true := by
 have h : (gQ p nm s).under 0 = true := by
  unfold gQ
  simp only [D.under, D.unders, nW_under, sl_under (map_under (dV_under 0) _), sl_under (map_under (dP_under 0) _), Bool.and_true]
 rw [h]; rfl
theorem nW_avoid (p : Pg) (nm : ByteArray) (s i : Nat) : D.avoids i (nW p nm s) = true := by
 rw [nW_eq]
 simp only [D.avoids, D.avoid, dN_avoid, Bool.and_self]
theorem sl_avoid {i n : Nat} {l : List D} (h : D.avoids i l = true) : (sl n l).avoid i = true := by
 unfold sl; simp only [D.avoid, h]

/-- the call of Check that the block in a box is for -/
theorem cB_box {p : Pg} {nm : ByteArray} {s : Nat} {fr : List D} {B : List (List D)} {nx : Nat} {lv : List Nat} (h : B[3]? = some (nW p nm s)) : checkB (wrapP nm p) 18 [.agg [sl 3 (p.vars.map dV), sl 6 (p.procs.map dP), .int .u8 57, .int .i64 0, .str ⟨#[]⟩, .bsl 3 0 4 1]] ⟨fr, B, nx, lv⟩ = some (sl 4 ((checkF (wrapP nm p)).map dFt), ⟨fr, B, nx, lv⟩) := by
 unfold checkB
 rw [if_pos ⟨rfl, _, _, _, _, _, 3, nW p nm s, rfl, h, rfl, by simp only [D.avoids, D.avoid, sl_avoid (dVs_avoid 3 _), sl_avoid (dPs_avoid 3 _), Bool.and_self], nW_avoid p nm s 3, gQ_strip p nm s, by
  have := gQ_pl p nm s
  simp only [zat] at this
  exact this.1⟩]
theorem cB_no {p q : Pg} (σ : St) : checkB q 18 [dG p] σ = none := by
 unfold checkB
 rw [if_neg]
 rintro ⟨_, A, B, x, y, z, i, cs, h, _⟩
 unfold dG sl at h
 simp at h
theorem cC_no {p : Pg} {A B x y z : D} {i : Nat} (σ : St) : checkCa p 18 [.agg [A, B, x, y, z, .bsl i 0 4 1]] σ = none := by
 unfold checkCa
 rw [if_neg]
 rintro ⟨_, h, _⟩
 unfold dG sl at h
 simp [D.strip, D.strips] at h
theorem cC_box {p : Pg} (fr : List D) (B : List (List D)) (nx : Nat) (lv : List Nat) : checkCa p 18 [dG p] ⟨fr, B, nx, lv⟩ = some (.bsl B.length 0 4 (checkF p).length, ⟨fr, B ++ [cF (checkF p)], nx, lv⟩) := by
 unfold checkCa
 rw [if_pos ⟨rfl, by simp [dG_strip], by simp only [List.all_cons, List.all_nil, Bool.and_true]; exact dG_pl p⟩, cF_eq]
noncomputable def caY (p : Pg) : Nat → List D → St → Option (D × St) := calOr (checkCa p) (checkB (wrapP un7 p))
theorem caY_ok {p : Pg} (hv : validB p = true) (hw : validB (wrapP un7 p) = true) (hne : checkF p ≠ []) : CaOk Try.prog (caY p) := CaOk.or (CaOk.check p hv hne) (CaOk.checkB _ hw)
noncomputable def caZ (p : Pg) : Nat → List D → St → Option (D × St) := calOr (checkB (wrapP un7 p)) (pcall (fn EV))
theorem caZ_ok {p : Pg} (hw : validB (wrapP un7 p) = true) : CaOk Try.prog (caZ p) := CaOk.or (CaOk.checkB _ hw) (CaOk.pure fun _k' _a' _d' q => fn_sound EV EV_ok q)
theorem caY_1 {p : Pg} (fr : List D) (B : List (List D)) (nx : Nat) (lv : List Nat) : caY p 18 [dG p] ⟨fr, B, nx, lv⟩ = some (.bsl B.length 0 4 (checkF p).length, ⟨fr, B ++ [cF (checkF p)], nx, lv⟩) := by
 unfold caY calOr
 rw [cC_box]
theorem caY_2 {p : Pg} {s : Nat} {fr : List D} {B : List (List D)} {nx : Nat} {lv : List Nat} (h : B[3]? = some (nW p un7 s)) : caY p 18 [.agg [sl 3 (p.vars.map dV), sl 6 (p.procs.map dP), .int .u8 57, .int .i64 0, .str ⟨#[]⟩, .bsl 3 0 4 1]] ⟨fr, B, nx, lv⟩ = some (sl 4 ((checkF (wrapP un7 p)).map dFt), ⟨fr, B, nx, lv⟩) := by
 unfold caY calOr
 rw [cC_no, cB_box h]
theorem caZ_1 {p : Pg} {d : D} (h : fn EV 18 [dG p] = some d) (σ : St) : caZ p 18 [dG p] σ = some (d, σ) := by
 unfold caZ calOr
 rw [cB_no]
 show (fn EV _ _).map _ = _
 rw [h]; rfl
theorem caZ_2 {p : Pg} {s : Nat} {fr : List D} {B : List (List D)} {nx : Nat} {lv : List Nat} (h : B[3]? = some (nW p un7 s)) : caZ p 18 [.agg [sl 3 (p.vars.map dV), sl 6 (p.procs.map dP), .int .u8 57, .int .i64 0, .str ⟨#[]⟩, .bsl 3 0 4 1]] ⟨fr, B, nx, lv⟩ = some (sl 4 ((checkF (wrapP un7 p)).map dFt), ⟨fr, B, nx, lv⟩) := by
 unfold caZ calOr
 rw [cB_box h]
/-- Visible sees the local -/
theorem vis_wrapA (s : ByteArray) (p : Pg) : visA (wrapP s p) p.procs.length [0, 1] = .tup [sl 3 ((p.vars ++ [(⟨s, 1, 0⟩ : Vd)]).map dV), .int .i64 0] := by
 unfold visA
 have e0 : ((wrapP s p).procs.length : Int) = (p.procs.length : Int) := rfl
 rw [if_pos ⟨by omega, by rw [e0]; exact Int.le_refl _⟩]
 have e1 : bdT (wrapP s p) p.procs.length = wrapT s p.main := dif_neg (by rw [e0]; omega)
 have e2 : bdV (wrapP s p) p.procs.length = p.vars := dif_neg (by rw [e0]; omega)
 rw [e1, e2]
 have h : visW [0, 1] (wrapT s p.main) p.vars = some (p.vars ++ [(⟨s, 1, 0⟩ : Vd)]) := by
  simp [visW, wrapT, locT, Tr.kids, innerV, Tr.kind, Tr.name]
 rw [h]; rfl

end Go.Proofs.Ytjikokmhknnnoaa

/- The law ScopeLocal: where it answers at once. -/
namespace Go.Proofs.Ytjikokmhknnnoaa
open Go.RowKit

set_option maxRecDepth 100000 in
set_option maxHeartbeats 4000000 in
theorem lawL_s (p : Pg) (k : Int) (hsb : smallB p = false) : fn EV 11 [dG p, .int .u8 k] = some (.bool true) := by
 refine fn_X rfl Try.func11 rfl (by simp only [plain, List.all_cons, List.all_nil, int_pl, dG_pl, Bool.and_true]) (rfl) (rfl) (rfl) ?_
 simp only [zmc, zmn, D.strip, dG_strip]
 simp only [enterSt, Try.ntmps11, zlc, zln, Nat.reduceAdd, Nat.reduceSub, zr1, zr0, zca, zna]
 refine X_seq ?_
 refine X_rg fun R hR => ?_
 simp only [aops, astep, awant, aeff, aop, ev, ofValue, St.put, zg0, zgd, zmo, if_true, zs1, zs0, zln, zna, dG_cells, dG_good]
 with_reducible refine hR _ ?_
 clear hR R
 show X _ _ _ _
 refine X_seq ?_
 refine X_seq ?_
 refine X_rg fun R hR => ?_
 simp only [EVP, aops, astep, awant, aeff, aop, ev, St.put, pcall, zmn, zg1, zg0, zgd, zmo, if_true, zs1, zs0, zna, Bool.not_true, any12, awake_ok]
 with_reducible refine hR _ ?_
 clear hR R
 show X _ _ _ _
 refine X_false (by simp only [ev, zg1, zg0, zgd]) ?_
 refine X_skip ?_
 show X _ _ _ _
 refine X_seq ?_
 refine X_seq ?_
 have hsm := small_fn p
 rw [if_neg (by rw [hsb]; decide)] at hsm
 refine X_rg fun R hR => ?_
 simp only [EVP, inr_i64, Int.reduceLE, Int.reduceNeg, aops, astep, awant, aeff, aop, abin, aint, mkD, ev, ofValue, St.put, pcall, zmc, zmn, zg1, zg0, zgd, zmo, Option.map_none, zbs, if_true, zs1, zs0, zlc, zln, zd0, zt1, zt0, zca, zna, Nat.reduceAdd, Nat.reduceLeDiff, Nat.zero_add, zft, if_false, and_self, reduceCtorEq, beq_self_eq_true, bq_tf, ty_api_Node, ty_api_Program, any19, any22, any36, dG_agg, hsm]
 with_reducible refine hR _ ?_
 clear hR R
 show X _ _ _ _
 refine X_true (by simp only [ev, zg1, zg0, zgd]) ?_
 refine X_seq ?_
 refine X_rg fun R hR => ?_
 simp only [aops, astep, awant, aeff, aop, ev, ofValue, St.put, zgd, zmo, if_true, zs1, zs0]
 with_reducible refine hR _ ?_
 clear hR R
 show X _ _ _ _
 refine X_ret ?_
 show resD _ _ _ = some _
 simp only [resD, resAll, resOne, resTup, Try.results11, EVP, zg1, zg0, D.good, if_true, zmo] <;> (first | (rfl; done) | (simp_all; done) | (exfalso; simp_all; done))
set_option maxRecDepth 100000 in
set_option maxHeartbeats 4000000 in
theorem lawL_d (p : Pg) (k : Int) (hsb : smallB p = true) (hd : 78 < p.main.depth) : fn EV 11 [dG p, .int .u8 k] = some (.bool true) := by
 obtain ⟨hvd, hp6, hv20, hm80⟩ := small_valid hsb
 refine fn_X rfl Try.func11 rfl (by simp only [plain, List.all_cons, List.all_nil, int_pl, dG_pl, Bool.and_true]) (rfl) (rfl) (rfl) ?_
 simp only [zmc, zmn, D.strip, dG_strip]
 simp only [enterSt, Try.ntmps11, zlc, zln, Nat.reduceAdd, Nat.reduceSub, zr1, zr0, zca, zna]
 refine X_seq ?_
 refine X_rg fun R hR => ?_
 simp only [aops, astep, awant, aeff, aop, ev, ofValue, St.put, zg0, zgd, zmo, if_true, zs1, zs0, zln, zna, dG_cells, dG_good]
 with_reducible refine hR _ ?_
 clear hR R
 show X _ _ _ _
 refine X_seq ?_
 refine X_seq ?_
 refine X_rg fun R hR => ?_
 simp only [EVP, aops, astep, awant, aeff, aop, ev, St.put, pcall, zmn, zg1, zg0, zgd, zmo, if_true, zs1, zs0, zna, Bool.not_true, any12, awake_ok]
 with_reducible refine hR _ ?_
 clear hR R
 show X _ _ _ _
 refine X_false (by simp only [ev, zg1, zg0, zgd]) ?_
 refine X_skip ?_
 show X _ _ _ _
 refine X_seq ?_
 refine X_seq ?_
 have hsm := small_fn p
 rw [if_pos hsb] at hsm
 have hdp := o_ast_Depth p.main (by have := (valid_bd hvd).2.2.2.2; omega)
 have hd1 : decide ((p.main.depth : Int) > 78) = true := by simp; omega
 have hd2 : decide (78 < (p.main.depth : Int)) = true := by simp; omega
 have hd3 : decide (78 < p.main.depth) = true := by simp; omega
 refine X_rg fun R hR => ?_
 simp only [EVP, inr_i64, Int.reduceLE, Int.reduceNeg, aops, astep, awant, aeff, aop, abin, aint, mkD, ev, ofValue, St.put, pcall, zmc, zmn, zg1, zg0, zgd, zmo, Option.map_none, zbs, if_true, zs1, zs0, zlc, zln, zd1, zd0, zt1, zt0, zca, zna, Nat.reduceAdd, Nat.reduceLeDiff, Nat.zero_add, zft, if_false, and_self, reduceCtorEq, beq_self_eq_true, bq_tf, Int.reduceBEq, ty_api_Node, ty_api_Program, any19, any22, any36, dN_agg, dG_agg, hsm, es7, hdp, hd1]
 with_reducible refine hR _ ?_
 clear hR R
 show X _ _ _ _
 refine X_true (by simp only [ev, zg1, zg0, zgd]) ?_
 refine X_seq ?_
 refine X_rg fun R hR => ?_
 simp only [aops, astep, awant, aeff, aop, ev, ofValue, St.put, zgd, zmo, if_true, zs1, zs0]
 with_reducible refine hR _ ?_
 clear hR R
 show X _ _ _ _
 refine X_ret ?_
 show resD _ _ _ = some _
 simp only [resD, resAll, resOne, resTup, Try.results11, EVP, zg1, zg0, D.good, if_true, zmo] <;> (first | (rfl; done) | (simp_all; done) | (exfalso; simp_all; done))
set_option maxRecDepth 100000 in
set_option maxHeartbeats 4000000 in
theorem lawL_m (p : Pg) (k : Int) (hsb : smallB p = true) (hd : p.main.depth ≤ 78) (hm : mentB un7 p.main = true) : fn EV 11 [dG p, .int .u8 k] = some (.bool true) := by
 obtain ⟨hvd, hp6, hv20, hm80⟩ := small_valid hsb
 refine fn_X rfl Try.func11 rfl (by simp only [plain, List.all_cons, List.all_nil, int_pl, dG_pl, Bool.and_true]) (rfl) (rfl) (rfl) ?_
 simp only [zmc, zmn, D.strip, dG_strip]
 simp only [enterSt, Try.ntmps11, zlc, zln, Nat.reduceAdd, Nat.reduceSub, zr1, zr0, zca, zna]
 refine X_seq ?_
 refine X_rg fun R hR => ?_
 simp only [aops, astep, awant, aeff, aop, ev, ofValue, St.put, zg0, zgd, zmo, if_true, zs1, zs0, zln, zna, dG_cells, dG_good]
 with_reducible refine hR _ ?_
 clear hR R
 show X _ _ _ _
 refine X_seq ?_
 refine X_seq ?_
 refine X_rg fun R hR => ?_
 simp only [EVP, aops, astep, awant, aeff, aop, ev, St.put, pcall, zmn, zg1, zg0, zgd, zmo, if_true, zs1, zs0, zna, Bool.not_true, any12, awake_ok]
 with_reducible refine hR _ ?_
 clear hR R
 show X _ _ _ _
 refine X_false (by simp only [ev, zg1, zg0, zgd]) ?_
 refine X_skip ?_
 show X _ _ _ _
 refine X_seq ?_
 refine X_seq ?_
 have hsm := small_fn p
 rw [if_pos hsb] at hsm
 have hdp := o_ast_Depth p.main (by have := (valid_bd hvd).2.2.2.2; omega)
 have hd1 : decide ((p.main.depth : Int) > 78) = false := by simp; omega
 have hd2 : decide (78 < (p.main.depth : Int)) = false := by simp; omega
 have hd3 : decide (78 < p.main.depth) = false := by simp; omega
 have hme := ment_fn un7 p.main.size p.main (Nat.le_refl _) (by omega)
 rw [hm] at hme
 refine X_rg fun R hR => ?_
 simp only [EVP, inr_i64, Int.reduceLE, Int.reduceNeg, aops, astep, awant, aeff, aop, abin, aint, mkD, ev, ofValue, St.put, pcall, zmc, zmn, zg1, zg0, zgd, zmo, zbs, if_true, zs1, zs0, zlc, zln, zd1, zd0, zt1, zt0, zca, zna, Nat.reduceAdd, Nat.reduceLeDiff, Nat.zero_add, zft, if_false, and_self, reduceCtorEq, beq_self_eq_true, Int.reduceBEq, ty_api_Node, ty_api_Program, any19, any22, any36, dN_agg, dG_agg, hsm, es7, hdp, hd1, hme]
 with_reducible refine hR _ ?_
 clear hR R
 show X _ _ _ _
 refine X_true (by simp only [ev, zg1, zg0, zgd]) ?_
 refine X_seq ?_
 refine X_rg fun R hR => ?_
 simp only [aops, astep, awant, aeff, aop, ev, ofValue, St.put, zgd, zmo, if_true, zs1, zs0]
 with_reducible refine hR _ ?_
 clear hR R
 show X _ _ _ _
 refine X_ret ?_
 show resD _ _ _ = some _
 simp only [resD, resAll, resOne, resTup, Try.results11, EVP, zg1, zg0, D.good, if_true, zmo] <;> (first | (rfl; done) | (simp_all; done) | (exfalso; simp_all; done))
set_option maxRecDepth 100000 in
set_option maxHeartbeats 4000000 in
theorem lawL_f (p : Pg) (k : Int) (hsb : smallB p = true) (hd : p.main.depth ≤ 78) (hm : mentB un7 p.main = false) (hf : hasV p.vars un7 = true) : fn EV 11 [dG p, .int .u8 k] = some (.bool true) := by
 obtain ⟨hvd, hp6, hv20, hm80⟩ := small_valid hsb
 refine fn_X rfl Try.func11 rfl (by simp only [plain, List.all_cons, List.all_nil, int_pl, dG_pl, Bool.and_true]) (rfl) (rfl) (rfl) ?_
 simp only [zmc, zmn, D.strip, dG_strip]
 simp only [enterSt, Try.ntmps11, zlc, zln, Nat.reduceAdd, Nat.reduceSub, zr1, zr0, zca, zna]
 refine X_seq ?_
 refine X_rg fun R hR => ?_
 simp only [aops, astep, awant, aeff, aop, ev, ofValue, St.put, zg0, zgd, zmo, if_true, zs1, zs0, zln, zna, dG_cells, dG_good]
 with_reducible refine hR _ ?_
 clear hR R
 show X _ _ _ _
 refine X_seq ?_
 refine X_seq ?_
 refine X_rg fun R hR => ?_
 simp only [EVP, aops, astep, awant, aeff, aop, ev, St.put, pcall, zmn, zg1, zg0, zgd, zmo, if_true, zs1, zs0, zna, Bool.not_true, any12, awake_ok]
 with_reducible refine hR _ ?_
 clear hR R
 show X _ _ _ _
 refine X_false (by simp only [ev, zg1, zg0, zgd]) ?_
 refine X_skip ?_
 show X _ _ _ _
 refine X_seq ?_
 refine X_seq ?_
 have hsm := small_fn p
 rw [if_pos hsb] at hsm
 have hdp := o_ast_Depth p.main (by have := (valid_bd hvd).2.2.2.2; omega)
 have hd1 : decide ((p.main.depth : Int) > 78) = false := by simp; omega
 have hd2 : decide (78 < (p.main.depth : Int)) = false := by simp; omega
 have hd3 : decide (78 < p.main.depth) = false := by simp; omega
 have hme := ment_fn un7 p.main.size p.main (Nat.le_refl _) (by omega)
 rw [hm] at hme
 refine X_rg fun R hR => ?_
 simp only [EVP, inr_i64, Int.reduceLE, Int.reduceNeg, aops, astep, awant, aeff, aop, abin, aint, mkD, ev, ofValue, St.put, pcall, zmc, zmn, zg1, zg0, zgd, zmo, zbs, if_true, zs1, zs0, zlc, zln, zd1, zd0, zt1, zt0, zca, zna, Nat.reduceAdd, Nat.reduceLeDiff, Nat.zero_add, zft, if_false, and_self, reduceCtorEq, beq_self_eq_true, Int.reduceBEq, ty_api_Node, ty_api_Program, any19, any22, any36, dN_agg, dG_agg, hsm, es7, hdp, hd1, hme]
 with_reducible refine hR _ ?_
 clear hR R
 show X _ _ _ _
 refine X_false (by simp only [ev, zg1, zg0, zgd]) ?_
 refine X_skip ?_
 show X _ _ _ _
 refine X_seq ?_
 refine X_seq ?_
 have hfi := find_fn p.vars un7 (by omega)
 rw [hasV_eq, hf] at hfi
 simp only [sl] at hfi
 refine X_rg fun R hR => ?_
 simp only [EVP, aops, astep, awant, aeff, aop, mkD, astore, ev, ofValue, St.put, pcall, ia_slice, zmc, zmn, zg1, zg0, zgd, zmo, zbs, if_true, zs1, zs0, zlc, zln, zd1, zd0, zt1, zt0, zca, zna, Nat.reduceAdd, Nat.reduceLeDiff, Nat.zero_add, Nat.add_zero, zft, if_false, and_self, reduceCtorEq, ty_s_api_VarDecl, ty_api_VarDecl, ty_api_Program, any13, dV_good, dV_cells, hfi, es7]
 with_reducible refine hR _ ?_
 clear hR R
 show X _ _ _ _
 refine X_seq ?_
 refine X_rg fun R hR => ?_
 simp only [aops, astep, awant, aeff, aop, ev, St.put, zg1, zg0, zgd, zmo, if_true, zs1, zs0]
 with_reducible refine hR _ ?_
 clear hR R
 show X _ _ _ _
 refine X_true (by simp only [ev, zg1, zg0, zgd]) ?_
 refine X_seq ?_
 refine X_rg fun R hR => ?_
 simp only [aops, astep, awant, aeff, aop, ev, ofValue, St.put, zgd, zmo, if_true, zs1, zs0]
 with_reducible refine hR _ ?_
 clear hR R
 show X _ _ _ _
 refine X_ret ?_
 show resD _ _ _ = some _
 simp only [resD, resAll, resOne, resTup, Try.results11, EVP, zg1, zg0, D.good, if_true, zmo] <;> (first | (rfl; done) | (simp_all; done) | (exfalso; simp_all; done))

end Go.Proofs.Ytjikokmhknnnoaa

/- The law ScopeLocal: what its walk needs. -/
namespace Go.Proofs.Ytjikokmhknnnoaa
open Go.RowKit

theorem PContract.un {P : Program} {k : Nat} {args args' : List D} {d : D} (h : PContract P k args' d) (hp : plain args = true) (e : args.map D.strip = args') : PContract P k args d := by
 intro g vs w hk hv
 refine h g vs w hk ?_
 subst e
 refine ⟨by simpa using hv.1, fun j h1 h2 => ?_⟩
 rw [List.getElem_map]
 have hj : j < args.length := by simpa using h1
 have := List.all_eq_true.1 hp _ (List.getElem_mem hj)
 rw [zat] at this
 exact (hv.2 j hj h2).free this.1 g ⟨fun _ _ q => q, fun _ q => q, fun _ _ q => q⟩
theorem dIs_avoid (i : Nat) (c : List Int) : D.avoids i (c.map dI) = true := map_avoid (fun _ => rfl) c
theorem any_take {α : Type} {f : α → Bool} {l : List α} {j : Nat} (h : j < l.length) : (l.take (j + 1)).any f = ((l.take j).any f || f l[j]) := by
 rw [List.take_succ_eq_append_getElem h, List.any_append, List.any_cons, List.any_nil, Bool.or_false]
/-- slots that a freezing of box i can turn, and that do not look at box 3 -/
def BK3 (N : Nat) (d : D) : Prop := BG 4 N d ∧ d.avoid 3 = true
theorem BK3.fz {l : List Ft} {d : D} (h : BK3 l.length d) : ∃ d', Fz 4 (cF l) d d' ∧ d'.avoid 3 = true := by
 obtain ⟨h, ha⟩ := h
 rcases h with h | rfl | ⟨k, hk, rfl | rfl⟩
 ·exact ⟨d, .keep d h, ha⟩
 ·exact ⟨_, Fz.row (l := l.map dFt) rfl (by simp) (by omega) (dFt_len l), dFts_avoid 3 l⟩
 ·exact ⟨_, Fz.cell (l := l.map dFt) (k := k) rfl rfl (by simpa using hk) (dFt_len l), by rw [List.getElem_map]; exact dFt_avoid 3 _⟩
 ·exact ⟨_, Fz.bpt (k * 4 + 1) 0 1 (sl 1 (l[k].path.map dI)) (by rw [cF_getP hk]; rfl) (by rw [cF_len]; omega), sl_avoid (n := 1) (map_avoid (fun _ => rfl) _)⟩
theorem BK3.a {N : Nat} {d : D} (h4 : d.avoid 4 = true) (h3 : d.avoid 3 = true) : BK3 N d := ⟨.inl h4, h3⟩
def sk (t : Nat) : Bool := t == 48 || t == 49 || t == 53
inductive BKL (N : Nat) : Nat → List D → Prop
 | nil (k : Nat) : BKL N k []
 | cons {k : Nat} {d : D} {l : List D} (h : BK3 N d) (t : BKL N (k + 1) l) : BKL N k (d :: l)
 | skip {k : Nat} {d : D} {l : List D} (h : sk k = true) (t : BKL N (k + 1) l) : BKL N k (d :: l)
theorem BKL.at {N : Nat} {k : Nat} {l : List D} (h : BKL N k l) : ∀ t : Nat, sk (k + t) = false → BK3 N (nthD l t) := by
 induction h with
 | nil => intro t _; exact BK3.a rfl rfl
 | @cons k _ _ h _ ih =>
  intro t ht
  cases t with
  | zero => exact h
  | succ t => exact ih t (by rw [show k + 1 + t = k + (t + 1) from by omega]; exact ht)
 | @skip k _ _ h _ ih =>
  intro t ht
  cases t with
  | zero => rw [Nat.add_zero, h] at ht; cases ht
  | succ t => exact ih t (by rw [show k + 1 + t = k + (t + 1) from by omega]; exact ht)
theorem BKL.slot {N : Nat} {fr : List D} {bx : List (List D)} {nx : Nat} {lv : List Nat} (h : BKL N 0 fr) : ∀ t, sk t = false → BK3 N (slotOf ⟨fr, bx, nx, lv⟩ t) := fun t ht => h.at t (by rw [Nat.zero_add]; exact ht)
theorem bk_choose {l : List Ft} {x : Nat → D} (h : ∀ t, sk t = false → BK3 l.length (x t)) : ∃ y : Nat → D, ∀ t, sk t = false → Fz 4 (cF l) (x t) (y t) ∧ (y t).avoid 3 = true := by
 have : ∀ t, ∃ d, sk t = false → Fz 4 (cF l) (x t) d ∧ d.avoid 3 = true := fun t => by
  cases ht : sk t with
  | true => exact ⟨.undef, fun e => by cases e⟩
  | false => obtain ⟨d, h1⟩ := BK3.fz (h t ht); exact ⟨d, fun _ => h1⟩
 exact Classical.axiomOfChoice this
theorem tmod_nat {k : Int} (hk : 0 ≤ k) (n : Nat) : k.tmod (n : Int) = ((k.toNat % n : Nat) : Int) := by
 obtain ⟨m, rfl⟩ := Int.eq_ofNat_of_zero_le hk
 rw [Int.tmod_eq_emod_of_nonneg hk]; simp
theorem u8_conv {k : Int} (h0 : 0 ≤ k) (h1 : k ≤ 255) : IntKind.i64.wrap k = k := by
 simp only [IntKind.wrap, IntKind.bits, IntKind.signed]; simp; omega
theorem name_at {p : Pg} (hv : validB p = true) {i : Nat} (h : i < p.vars.length) : nameB p.vars[i].name = true := by
 simp only [validB, zat, List.all_eq_true] at hv
 have := hv.1.1.2 _ (List.getElem_mem h)
 simp only [declB, zat] at this
 exact this.1
theorem ints_own (l w : List Int) (o : Own) (ho : o.st = .imm) (hw : w ≠ []) (hl : l.length ≤ 1000000) : fn EV 24 [sl 1 (l.map dI), .slice o 1 (w.map dI)] = some (.bool (decide (l = w))) := by
 rw [fn_strip (args' := [sl 1 (l.map dI), sl 1 (w.map dI)])]
 ·exact ints_fn l w hl
 ·have h0 : D.under 0 (.slice o 1 (w.map dI)) = true := by simp only [D.under, unders_id (f := dI) (fun _ _ => rfl)]
  simp only [plain, List.all_cons, List.all_nil, sl_pl (f := dI) (fun _ _ => rfl), h0, Bool.and_true, Bool.true_and]; rfl
 ·simp only [plain, List.all_cons, List.all_nil, sl_pl (f := dI) (fun _ _ => rfl), Bool.and_true]
 ·simp only [zmc, zmn, sl_own (f := dI) (fun _ => rfl) hw o ho, sl_strip (map_strip (f := dI) (fun _ => rfl) _)]
theorem q34a : Try.prog.stoodInHeld 34 = false := by kernel_rfl
theorem q34b : Try.prog.eqGuardType Try.prog.depth 34 = false := by kernel_rfl
theorem vd_fs : fs_api_VarDecl.toList.map (fun f => (decide (f.name = "_"), f.offset, Try.prog.underlying f.type)) = [(false, 0, some .string), (false, 1, some (.int .u8)), (false, 2, some (.int .i64))] := by kernel_rfl
theorem vd_eq (v : Vd) : aggEq Try.prog [.str v.name, .int .u8 v.kind, .int .i64 v.len] [.str v.name, .int .u8 v.kind, .int .i64 v.len] fs_api_VarDecl.toList = some true := by
 have h := vd_fs
 match hf : fs_api_VarDecl.toList, h with
 | [a, b, c], h =>
  simp only [zmc, zmn, List.cons.injEq, Prod.mk.injEq, and_true, decide_eq_false_iff_not] at h
  obtain ⟨⟨a1, a2, a3⟩, ⟨b1, b2, b3⟩, c1, c2, c3⟩ := h
  simp [aggEq, a1, a2, b1, b2, c1, c2, scEq, a3, b3, c3]
 | [], h => simp at h
 | [_], h => simp at h
 | [_, _], h => simp at h
 | _ :: _ :: _ :: _ :: _, h => simp at h

end Go.Proofs.Ytjikokmhknnnoaa
