/- The types that the machine over data meets. -/
import Derived.Test.YtlpgapmbajblmaaAmX
import Derived.Test.YtlpgapmbajblmaaProg
namespace Go.Proofs.Ytlpgapmbajblmaa
open Go.RowKit

theorem ty_int : tyOf Try.prog 3 = some { sz := 1, agg := false, flds := [], elem := none, zero := some [.int .i64 0], bytes := 8 } := by kernel_rfl
theorem ty_bool : tyOf Try.prog 4 = some { sz := 1, agg := false, flds := [], elem := none, zero := some [.bool false], bytes := 1 } := by kernel_rfl
theorem ty_uint8 : tyOf Try.prog 5 = some { sz := 1, agg := false, flds := [], elem := none, zero := some [.int .u8 0], bytes := 1 } := by kernel_rfl
theorem ty_string : tyOf Try.prog 9 = some { sz := 1, agg := false, flds := [], elem := none, zero := some [.str ⟨#[]⟩], bytes := 16 } := by kernel_rfl
theorem ty_s_api_Node : tyOf Try.prog 22 = some { sz := 1, agg := false, flds := [], elem := some 24, zero := some [.slice .nil 0 []], bytes := 24 } := by kernel_rfl
theorem ty_api_Node : tyOf Try.prog 24 = some { sz := 4, agg := true, flds := [(0, 1, false), (1, 1, false), (2, 1, false), (3, 1, false)], elem := none, zero := some [.int .u8 0, .int .i64 0, .str ⟨#[]⟩, .slice .nil 0 []], bytes := 56 } := by kernel_rfl
noncomputable def fs_api_Node : Array Field := match Try.prog.underlying 24 with | some (.struct fs) => fs | _ => #[]
theorem st_api_Node : Try.prog.underlying 24 = some (.struct fs_api_Node) := by kernel_rfl
theorem sta_api_Node : (fs_api_Node.toList.all fun f => (Try.prog.info? f.type).isSome) = true := by kernel_rfl
theorem und_int : Try.prog.underlying 44 = some (.slice 3) := by kernel_rfl
theorem siz_int : Try.prog.cellsOf 3 = 1 := by kernel_rfl
noncomputable def inf_int : TypeInfo := (Try.prog.info? 3).getD default
theorem inf_int_eq : Try.prog.info? 3 = some inf_int := by kernel_rfl
theorem und_api_Node : Try.prog.underlying 22 = some (.slice 24) := by kernel_rfl
theorem siz_api_Node : Try.prog.cellsOf 24 = 4 := by kernel_rfl
noncomputable def inf_api_Node : TypeInfo := (Try.prog.info? 24).getD default
theorem inf_api_Node_eq : Try.prog.info? 24 = some inf_api_Node := by kernel_rfl
theorem inf_api_Node_size : inf_api_Node.size = 4 := by kernel_rfl
theorem inf_api_Node_bytes : inf_api_Node.bytes = 56 := by kernel_rfl
theorem inf_api_Node_zero : inf_api_Node.zero.isSome = true := by kernel_rfl
theorem inf_api_Node_zc : (inf_api_Node.zero.map fun z => z.cells.size) = some 4 := by kernel_rfl
theorem und_string' : Try.prog.underlying 9 = some (.string) := by kernel_rfl

end Go.Proofs.Ytlpgapmbajblmaa
