/- The types that the machine over data meets. -/
import Derived.Test.YtkkhjpkkjpcbmaaAmX
import Derived.Test.YtkkhjpkkjpcbmaaProg
namespace Go.Proofs.Ytkkhjpkkjpcbmaa
open Go.RowKit

theorem ty_int : tyOf Try.prog 3 = some { sz := 1, agg := false, flds := [], elem := none, zero := some [.int .i64 0], bytes := 8 } := by kernel_rfl
theorem ty_bool : tyOf Try.prog 4 = some { sz := 1, agg := false, flds := [], elem := none, zero := some [.bool false], bytes := 1 } := by kernel_rfl
theorem ty_uint8 : tyOf Try.prog 5 = some { sz := 1, agg := false, flds := [], elem := none, zero := some [.int .u8 0], bytes := 1 } := by kernel_rfl
theorem ty_string : tyOf Try.prog 9 = some { sz := 1, agg := false, flds := [], elem := none, zero := some [.str ⟨#[]⟩], bytes := 16 } := by kernel_rfl
theorem ty_s_api_Node : tyOf Try.prog 22 = some { sz := 1, agg := false, flds := [], elem := some 24, zero := some [.slice .nil 0 []], bytes := 24 } := by kernel_rfl
theorem ty_s_api_Proc : tyOf Try.prog 41 = some { sz := 1, agg := false, flds := [], elem := some 66, zero := some [.slice .nil 0 []], bytes := 24 } := by kernel_rfl
theorem ty_api_Node : tyOf Try.prog 24 = some { sz := 4, agg := true, flds := [(0, 1, false), (1, 1, false), (2, 1, false), (3, 1, false)], elem := none, zero := some [.int .u8 0, .int .i64 0, .str ⟨#[]⟩, .slice .nil 0 []], bytes := 56 } := by kernel_rfl
theorem ty_api_Proc : tyOf Try.prog 66 = some { sz := 6, agg := true, flds := [(0, 1, false), (1, 1, false), (2, 4, true)], elem := none, zero := some [.str ⟨#[]⟩, .slice .nil 0 [], .int .u8 0, .int .i64 0, .str ⟨#[]⟩, .slice .nil 0 []], bytes := 96 } := by kernel_rfl
theorem ty_api_Program : tyOf Try.prog 43 = some { sz := 6, agg := true, flds := [(0, 1, false), (1, 1, false), (2, 4, true)], elem := none, zero := some [.slice .nil 0 [], .slice .nil 0 [], .int .u8 0, .int .i64 0, .str ⟨#[]⟩, .slice .nil 0 []], bytes := 104 } := by kernel_rfl
theorem und_int : Try.prog.underlying 39 = some (.slice 3) := by kernel_rfl
theorem siz_int : Try.prog.cellsOf 3 = 1 := by kernel_rfl
noncomputable def inf_int : TypeInfo := (Try.prog.info? 3).getD default
theorem inf_int_eq : Try.prog.info? 3 = some inf_int := by kernel_rfl
theorem inf_int_size : inf_int.size = 1 := by kernel_rfl
theorem inf_int_bytes : inf_int.bytes = 8 := by kernel_rfl
theorem inf_int_zero : inf_int.zero.isSome = true := by kernel_rfl
theorem inf_int_zc : (inf_int.zero.map fun z => z.cells.size) = some 1 := by kernel_rfl
theorem und_api_Node : Try.prog.underlying 22 = some (.slice 24) := by kernel_rfl
theorem siz_api_Node : Try.prog.cellsOf 24 = 4 := by kernel_rfl
noncomputable def inf_api_Node : TypeInfo := (Try.prog.info? 24).getD default
theorem inf_api_Node_eq : Try.prog.info? 24 = some inf_api_Node := by kernel_rfl
theorem und_api_VarDecl : Try.prog.underlying 40 = some (.slice 137) := by kernel_rfl
theorem siz_api_VarDecl : Try.prog.cellsOf 137 = 3 := by kernel_rfl
theorem und_api_Proc : Try.prog.underlying 41 = some (.slice 66) := by kernel_rfl
theorem siz_api_Proc : Try.prog.cellsOf 66 = 6 := by kernel_rfl
noncomputable def inf_api_Proc : TypeInfo := (Try.prog.info? 66).getD default
theorem inf_api_Proc_eq : Try.prog.info? 66 = some inf_api_Proc := by kernel_rfl
theorem und_bool' : Try.prog.underlying 4 = some (.bool) := by kernel_rfl
end Go.Proofs.Ytkkhjpkkjpcbmaa
