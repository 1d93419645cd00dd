/- The types that the machine over data meets. -/
import Derived.Test.YtmglacjcefajlaaAmX
import Derived.Test.YtmglacjcefajlaaProg
namespace Go.Proofs.Ytmglacjcefajlaa
open Go.RowKit

theorem ty_int : tyOf Try.prog 3 = some { sz := 1, agg := false, flds := [], elem := none, zero := some [.int .i64 0], bytes := 8 } := by kernel_rfl
theorem ty_bool : tyOf Try.prog 4 = some { sz := 1, agg := false, flds := [], elem := none, zero := some [.bool false], bytes := 1 } := by kernel_rfl
theorem ty_uint8 : tyOf Try.prog 5 = some { sz := 1, agg := false, flds := [], elem := none, zero := some [.int .u8 0], bytes := 1 } := by kernel_rfl
theorem ty_string : tyOf Try.prog 9 = some { sz := 1, agg := false, flds := [], elem := none, zero := some [.str ⟨#[]⟩], bytes := 16 } := by kernel_rfl
theorem ty_s_int : tyOf Try.prog 40 = some { sz := 1, agg := false, flds := [], elem := some 3, zero := some [.slice .nil 0 []], bytes := 24 } := by kernel_rfl
theorem ty_s_api_Node : tyOf Try.prog 24 = some { sz := 1, agg := false, flds := [], elem := some 26, zero := some [.slice .nil 0 []], bytes := 24 } := by kernel_rfl
theorem ty_s_api_VarDecl : tyOf Try.prog 22 = some { sz := 1, agg := false, flds := [], elem := some 54, zero := some [.slice .nil 0 []], bytes := 24 } := by kernel_rfl
theorem ty_s_api_Proc : tyOf Try.prog 23 = some { sz := 1, agg := false, flds := [], elem := some 37, zero := some [.slice .nil 0 []], bytes := 24 } := by kernel_rfl
theorem ty_api_Node : tyOf Try.prog 26 = some { sz := 4, agg := true, flds := [(0, 1, false), (1, 1, false), (2, 1, false), (3, 1, false)], elem := none, zero := some [.int .u8 0, .int .i64 0, .str ⟨#[]⟩, .slice .nil 0 []], bytes := 56 } := by kernel_rfl
theorem ty_api_VarDecl : tyOf Try.prog 54 = some { sz := 3, agg := true, flds := [(0, 1, false), (1, 1, false), (2, 1, false)], elem := none, zero := some [.str ⟨#[]⟩, .int .u8 0, .int .i64 0], bytes := 32 } := by kernel_rfl
theorem ty_api_Proc : tyOf Try.prog 37 = some { sz := 6, agg := true, flds := [(0, 1, false), (1, 1, false), (2, 4, true)], elem := none, zero := some [.str ⟨#[]⟩, .slice .nil 0 [], .int .u8 0, .int .i64 0, .str ⟨#[]⟩, .slice .nil 0 []], bytes := 96 } := by kernel_rfl
theorem ty_api_Program : tyOf Try.prog 28 = some { sz := 6, agg := true, flds := [(0, 1, false), (1, 1, false), (2, 4, true)], elem := none, zero := some [.slice .nil 0 [], .slice .nil 0 [], .int .u8 0, .int .i64 0, .str ⟨#[]⟩, .slice .nil 0 []], bytes := 104 } := by kernel_rfl
noncomputable def fs_api_Node : Array Field := match Try.prog.underlying 26 with | some (.struct fs) => fs | _ => #[]
theorem st_api_Node : Try.prog.underlying 26 = some (.struct fs_api_Node) := by kernel_rfl
theorem sta_api_Node : (fs_api_Node.toList.all fun f => (Try.prog.info? f.type).isSome) = true := by kernel_rfl
noncomputable def fs_api_VarDecl : Array Field := match Try.prog.underlying 54 with | some (.struct fs) => fs | _ => #[]
theorem st_api_VarDecl : Try.prog.underlying 54 = some (.struct fs_api_VarDecl) := by kernel_rfl
theorem sta_api_VarDecl : (fs_api_VarDecl.toList.all fun f => (Try.prog.info? f.type).isSome) = true := by kernel_rfl
noncomputable def fs_api_Program : Array Field := match Try.prog.underlying 28 with | some (.struct fs) => fs | _ => #[]
theorem st_api_Program : Try.prog.underlying 28 = some (.struct fs_api_Program) := by kernel_rfl
theorem sta_api_Program : (fs_api_Program.toList.all fun f => (Try.prog.info? f.type).isSome) = true := by kernel_rfl
theorem und_int : Try.prog.underlying 40 = some (.slice 3) := by kernel_rfl
theorem siz_int : Try.prog.cellsOf 3 = 1 := by kernel_rfl
noncomputable def inf_int : TypeInfo := (Try.prog.info? 3).getD default
theorem inf_int_eq : Try.prog.info? 3 = some inf_int := by kernel_rfl
theorem inf_int_size : inf_int.size = 1 := by kernel_rfl
theorem inf_int_bytes : inf_int.bytes = 8 := by kernel_rfl
theorem inf_int_zero : inf_int.zero.isSome = true := by kernel_rfl
theorem inf_int_zc : (inf_int.zero.map fun z => z.cells.size) = some 1 := by kernel_rfl
theorem und_api_Node : Try.prog.underlying 24 = some (.slice 26) := by kernel_rfl
theorem siz_api_Node : Try.prog.cellsOf 26 = 4 := by kernel_rfl
theorem has_api_Node : (Try.prog.info? 26).isSome = true := by kernel_rfl
noncomputable def inf_api_Node : TypeInfo := (Try.prog.info? 26).getD default
theorem inf_api_Node_eq : Try.prog.info? 26 = some inf_api_Node := by kernel_rfl
theorem inf_api_Node_size : inf_api_Node.size = 4 := by kernel_rfl
theorem inf_api_Node_bytes : inf_api_Node.bytes = 56 := by kernel_rfl
theorem inf_api_Node_zero : inf_api_Node.zero.isSome = true := by kernel_rfl
theorem inf_api_Node_zc : (inf_api_Node.zero.map fun z => z.cells.size) = some 4 := by kernel_rfl
theorem und_api_VarDecl : Try.prog.underlying 22 = some (.slice 54) := by kernel_rfl
theorem siz_api_VarDecl : Try.prog.cellsOf 54 = 3 := by kernel_rfl
theorem has_api_VarDecl : (Try.prog.info? 54).isSome = true := by kernel_rfl
noncomputable def inf_api_VarDecl : TypeInfo := (Try.prog.info? 54).getD default
theorem inf_api_VarDecl_eq : Try.prog.info? 54 = some inf_api_VarDecl := by kernel_rfl
theorem inf_api_VarDecl_size : inf_api_VarDecl.size = 3 := by kernel_rfl
theorem inf_api_VarDecl_bytes : inf_api_VarDecl.bytes = 32 := by kernel_rfl
theorem inf_api_VarDecl_zero : inf_api_VarDecl.zero.isSome = true := by kernel_rfl
theorem inf_api_VarDecl_zc : (inf_api_VarDecl.zero.map fun z => z.cells.size) = some 3 := by kernel_rfl
theorem und_api_Proc : Try.prog.underlying 23 = some (.slice 37) := by kernel_rfl
theorem siz_api_Proc : Try.prog.cellsOf 37 = 6 := by kernel_rfl
theorem has_api_Proc : (Try.prog.info? 37).isSome = true := by kernel_rfl
noncomputable def inf_api_Proc : TypeInfo := (Try.prog.info? 37).getD default
theorem inf_api_Proc_eq : Try.prog.info? 37 = some inf_api_Proc := by kernel_rfl
theorem und_int' : Try.prog.underlying 3 = some (.int .i64) := by kernel_rfl
theorem und_string' : Try.prog.underlying 9 = some (.string) := by kernel_rfl

end Go.Proofs.Ytmglacjcefajlaa
