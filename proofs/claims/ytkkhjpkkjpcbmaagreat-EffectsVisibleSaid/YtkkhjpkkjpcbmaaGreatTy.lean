/- The types that the machine over data meets. -/
import Derived.Test.YtkkhjpkkjpcbmaaGreatAmX
import Derived.Test.YtkkhjpkkjpcbmaaGreatProg
namespace Go.Proofs.YtkkhjpkkjpcbmaaGreat
open Go.RowKit

theorem ty_int : tyOf Tryz.prog 3 = some { sz := 1, agg := false, flds := [], elem := none, zero := some [.int .i64 0], bytes := 8 } := by kernel_rfl
theorem ty_uint8 : tyOf Tryz.prog 5 = some { sz := 1, agg := false, flds := [], elem := none, zero := some [.int .u8 0], bytes := 1 } := by kernel_rfl
theorem ty_string : tyOf Tryz.prog 9 = some { sz := 1, agg := false, flds := [], elem := none, zero := some [.str ⟨#[]⟩], bytes := 16 } := by kernel_rfl
theorem ty_s_api_Node : tyOf Tryz.prog 24 = some { sz := 1, agg := false, flds := [], elem := some 26, zero := some [.slice .nil 0 []], bytes := 24 } := by kernel_rfl
theorem ty_s_api_VarDecl : tyOf Tryz.prog 22 = some { sz := 1, agg := false, flds := [], elem := some 38, zero := some [.slice .nil 0 []], bytes := 24 } := by kernel_rfl
theorem ty_s_api_Proc : tyOf Tryz.prog 23 = some { sz := 1, agg := false, flds := [], elem := some 34, zero := some [.slice .nil 0 []], bytes := 24 } := by kernel_rfl
theorem ty_api_Node : tyOf Tryz.prog 26 = some { sz := 4, agg := true, flds := [(0, 1, false), (1, 1, false), (2, 1, false), (3, 1, false)], elem := none, zero := some [.int .u8 0, .int .i64 0, .str ⟨#[]⟩, .slice .nil 0 []], bytes := 56 } := by kernel_rfl
theorem ty_api_VarDecl : tyOf Tryz.prog 38 = some { sz := 3, agg := true, flds := [(0, 1, false), (1, 1, false), (2, 1, false)], elem := none, zero := some [.str ⟨#[]⟩, .int .u8 0, .int .i64 0], bytes := 32 } := by kernel_rfl
theorem ty_api_Proc : tyOf Tryz.prog 34 = some { sz := 6, agg := true, flds := [(0, 1, false), (1, 1, false), (2, 4, true)], elem := none, zero := some [.str ⟨#[]⟩, .slice .nil 0 [], .int .u8 0, .int .i64 0, .str ⟨#[]⟩, .slice .nil 0 []], bytes := 96 } := by kernel_rfl
theorem ty_api_Program : tyOf Tryz.prog 28 = some { sz := 6, agg := true, flds := [(0, 1, false), (1, 1, false), (2, 4, true)], elem := none, zero := some [.slice .nil 0 [], .slice .nil 0 [], .int .u8 0, .int .i64 0, .str ⟨#[]⟩, .slice .nil 0 []], bytes := 104 } := by kernel_rfl
noncomputable def fs_api_VarDecl : Array Field := match Tryz.prog.underlying 38 with | some (.struct fs) => fs | _ => #[]
theorem st_api_VarDecl : Tryz.prog.underlying 38 = some (.struct fs_api_VarDecl) := by kernel_rfl
theorem sta_api_VarDecl : (fs_api_VarDecl.toList.all fun f => (Tryz.prog.info? f.type).isSome) = true := by kernel_rfl
theorem und_int : Tryz.prog.underlying 41 = some (.slice 3) := by kernel_rfl
theorem siz_int : Tryz.prog.cellsOf 3 = 1 := by kernel_rfl
noncomputable def inf_int : TypeInfo := (Tryz.prog.info? 3).getD default
theorem inf_int_eq : Tryz.prog.info? 3 = some inf_int := by kernel_rfl
theorem inf_int_size : inf_int.size = 1 := by kernel_rfl
theorem inf_int_bytes : inf_int.bytes = 8 := by kernel_rfl
theorem inf_int_zero : inf_int.zero.isSome = true := by kernel_rfl
theorem inf_int_zc : (inf_int.zero.map fun z => z.cells.size) = some 1 := by kernel_rfl
theorem und_api_Node : Tryz.prog.underlying 24 = some (.slice 26) := by kernel_rfl
theorem siz_api_Node : Tryz.prog.cellsOf 26 = 4 := by kernel_rfl
theorem has_api_Node : (Tryz.prog.info? 26).isSome = true := by kernel_rfl
noncomputable def inf_api_Node : TypeInfo := (Tryz.prog.info? 26).getD default
theorem inf_api_Node_eq : Tryz.prog.info? 26 = some inf_api_Node := by kernel_rfl
theorem und_api_VarDecl : Tryz.prog.underlying 22 = some (.slice 38) := by kernel_rfl
theorem siz_api_VarDecl : Tryz.prog.cellsOf 38 = 3 := by kernel_rfl
theorem has_api_VarDecl : (Tryz.prog.info? 38).isSome = true := by kernel_rfl
noncomputable def inf_api_VarDecl : TypeInfo := (Tryz.prog.info? 38).getD default
theorem inf_api_VarDecl_eq : Tryz.prog.info? 38 = some inf_api_VarDecl := by kernel_rfl
theorem inf_api_VarDecl_size : inf_api_VarDecl.size = 3 := by kernel_rfl
theorem inf_api_VarDecl_bytes : inf_api_VarDecl.bytes = 32 := by kernel_rfl
theorem inf_api_VarDecl_zero : inf_api_VarDecl.zero.isSome = true := by kernel_rfl
theorem inf_api_VarDecl_zc : (inf_api_VarDecl.zero.map fun z => z.cells.size) = some 3 := by kernel_rfl
theorem und_api_Proc : Tryz.prog.underlying 23 = some (.slice 34) := by kernel_rfl
theorem siz_api_Proc : Tryz.prog.cellsOf 34 = 6 := by kernel_rfl
theorem has_api_Proc : (Tryz.prog.info? 34).isSome = true := by kernel_rfl
noncomputable def inf_api_Proc : TypeInfo := (Tryz.prog.info? 34).getD default
theorem inf_api_Proc_eq : Tryz.prog.info? 34 = some inf_api_Proc := by kernel_rfl
theorem und_int' : Tryz.prog.underlying 3 = some (.int .i64) := by kernel_rfl
end Go.Proofs.YtkkhjpkkjpcbmaaGreat
