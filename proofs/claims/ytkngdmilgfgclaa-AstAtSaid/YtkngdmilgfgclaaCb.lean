import Derived.Test.YtkngdmilgfgclaaAmZ
import Derived.Test.YtkngdmilgfgclaaEnv
/- slices.Clone of nodes as a call that hands back a box. -/
namespace Go.Proofs.Ytkngdmilgfgclaa
open Go.RowKit

theorem ca_clone : CaOk Try.prog (cloneCa 57 4) := by
  obtain ⟨f, hf⟩ : ∃ f, Try.prog.funcs[57]? = some f ∧ f.body = some (cloneBody 22 4) ∧ f.ntmps = 8 ∧ f.results = #[.tmp 2] := ⟨_, Try.func57, by kernel_rfl, by kernel_rfl, by kernel_rfl⟩
  obtain ⟨h1, h2, h3, h4⟩ := hf
  obtain ⟨z, hz, hzs⟩ := Option.map_eq_some_iff.1 inf_api_Node_zc
  have h := CaOk.clone EV_ok h1 h2 h3 h4 und_api_Node inf_api_Node_eq hz (by rw [hzs, inf_api_Node_size]) (by rw [inf_api_Node_size]; omega) (by rw [inf_api_Node_bytes]; omega)
  rwa [inf_api_Node_size] at h
end Go.Proofs.Ytkngdmilgfgclaa
