/- The types that the machine over data meets. -/
import Derived.Test.YthgdibdapjaljaaAmX
import Derived.Test.YthgdibdapjaljaaProg
namespace Go.Proofs.Ythgdibdapjaljaa
open Go.RowKit

theorem ty_int : tyOf Try.prog 3 = some { sz := 1, agg := false, flds := [], elem := none, zero := some [.int .i64 0], bytes := 8 } := by kernel_rfl
theorem ty_bool : tyOf Try.prog 4 = some { sz := 1, agg := false, flds := [], elem := none, zero := some [.bool false], bytes := 1 } := by kernel_rfl
theorem ty_uint8 : tyOf Try.prog 5 = some { sz := 1, agg := false, flds := [], elem := none, zero := some [.int .u8 0], bytes := 1 } := by kernel_rfl
theorem ty_string : tyOf Try.prog 9 = some { sz := 1, agg := false, flds := [], elem := none, zero := some [.str ⟨#[]⟩], bytes := 16 } := by kernel_rfl
theorem ty_s_int : tyOf Try.prog 67 = some { sz := 1, agg := false, flds := [], elem := some 3, zero := some [.slice .nil 0 []], bytes := 24 } := by kernel_rfl
theorem ty_s_api_Node : tyOf Try.prog 42 = some { sz := 1, agg := false, flds := [], elem := some 44, zero := some [.slice .nil 0 []], bytes := 24 } := by kernel_rfl
theorem ty_s_api_VarDecl : tyOf Try.prog 38 = some { sz := 1, agg := false, flds := [], elem := some 46, zero := some [.slice .nil 0 []], bytes := 24 } := by kernel_rfl
theorem ty_s_api_Proc : tyOf Try.prog 55 = some { sz := 1, agg := false, flds := [], elem := some 62, zero := some [.slice .nil 0 []], bytes := 24 } := by kernel_rfl
theorem ty_api_Node : tyOf Try.prog 44 = some { sz := 4, agg := true, flds := [(0, 1, false), (1, 1, false), (2, 1, false), (3, 1, false)], elem := none, zero := some [.int .u8 0, .int .i64 0, .str ⟨#[]⟩, .slice .nil 0 []], bytes := 56 } := by kernel_rfl
theorem ty_api_VarDecl : tyOf Try.prog 46 = some { sz := 3, agg := true, flds := [(0, 1, false), (1, 1, false), (2, 1, false)], elem := none, zero := some [.str ⟨#[]⟩, .int .u8 0, .int .i64 0], bytes := 32 } := by kernel_rfl
theorem ty_api_Proc : tyOf Try.prog 62 = some { sz := 6, agg := true, flds := [(0, 1, false), (1, 1, false), (2, 4, true)], elem := none, zero := some [.str ⟨#[]⟩, .slice .nil 0 [], .int .u8 0, .int .i64 0, .str ⟨#[]⟩, .slice .nil 0 []], bytes := 96 } := by kernel_rfl
theorem ty_api_Program : tyOf Try.prog 57 = some { sz := 6, agg := true, flds := [(0, 1, false), (1, 1, false), (2, 4, true)], elem := none, zero := some [.slice .nil 0 [], .slice .nil 0 [], .int .u8 0, .int .i64 0, .str ⟨#[]⟩, .slice .nil 0 []], bytes := 104 } := by kernel_rfl
noncomputable def fs_api_Node : Array Field := match Try.prog.underlying 44 with | some (.struct fs) => fs | _ => #[]
theorem st_api_Node : Try.prog.underlying 44 = some (.struct fs_api_Node) := by kernel_rfl
theorem sta_api_Node : (fs_api_Node.toList.all fun f => (Try.prog.info? f.type).isSome) = true := by kernel_rfl
noncomputable def fs_api_VarDecl : Array Field := match Try.prog.underlying 46 with | some (.struct fs) => fs | _ => #[]
theorem st_api_VarDecl : Try.prog.underlying 46 = some (.struct fs_api_VarDecl) := by kernel_rfl
theorem sta_api_VarDecl : (fs_api_VarDecl.toList.all fun f => (Try.prog.info? f.type).isSome) = true := by kernel_rfl
theorem und_int : Try.prog.underlying 67 = some (.slice 3) := by kernel_rfl
noncomputable def inf_int : TypeInfo := (Try.prog.info? 3).getD default
theorem inf_int_eq : Try.prog.info? 3 = some inf_int := by kernel_rfl
theorem inf_int_size : inf_int.size = 1 := by kernel_rfl
theorem inf_int_bytes : inf_int.bytes = 8 := by kernel_rfl
theorem inf_int_zero : inf_int.zero.isSome = true := by kernel_rfl
theorem inf_int_zc : (inf_int.zero.map fun z => z.cells.size) = some 1 := by kernel_rfl
theorem und_api_Node : Try.prog.underlying 42 = some (.slice 44) := by kernel_rfl
theorem siz_api_Node : Try.prog.cellsOf 44 = 4 := by kernel_rfl
theorem und_api_VarDecl : Try.prog.underlying 38 = some (.slice 46) := by kernel_rfl
theorem siz_api_VarDecl : Try.prog.cellsOf 46 = 3 := by kernel_rfl
noncomputable def inf_api_VarDecl : TypeInfo := (Try.prog.info? 46).getD default
theorem inf_api_VarDecl_eq : Try.prog.info? 46 = some inf_api_VarDecl := by kernel_rfl
end Go.Proofs.Ythgdibdapjaljaa
