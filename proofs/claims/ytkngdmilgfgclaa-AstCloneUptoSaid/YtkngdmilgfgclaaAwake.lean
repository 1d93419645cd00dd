/- The example that every law of the package checks first. -/
import Derived.Test.YtkngdmilgfgclaaWalk
import Derived.Test.YtkngdmilgfgclaaKinds2
import Derived.Test.YtkngdmilgfgclaaCount
namespace Go.Proofs.Ytkngdmilgfgclaa
open Go.RowKit Go.Shelf
attribute [local go_sem] Oper.semAt_some

def sampleT : Tr := .mk 40 0 ⟨#[]⟩ [.mk 2 0 ⟨#[120]⟩ [], .mk 1 1 ⟨#[]⟩ []]

theorem repP_leaf (w : World) (ok : Nat → Prop) (k n : Int) (s : ByteArray) (hf : Fits k n s 0 0) : RepP w ok (.mk k n s []) (.agg #[.int .u8 k, .int .i64 n, .string s, .slice none 0 0]) := by
  simp only [RepP]
  exact ⟨none, 0, rfl, hf, by simp [RowP]⟩

def SamplePost (w : World) (e : Ending) (w' : World) : Prop :=
  ∃ g, e = .returned (.agg #[.int .u8 40, .int .i64 0, .string ⟨#[]⟩, .slice (some ⟨g, 0, none⟩) 2 2]) ∧ w.heap.size ≤ g ∧ w'.heap[g]? = some (.cells #[.int .u8 2, .int .i64 0, .string ⟨#[120]⟩, .slice none 0 0, .int .u8 1, .int .i64 1, .string ⟨#[]⟩, .slice none 0 0] 24 (0, 0)) ∧ Below w.heap.size w w'

set_option maxHeartbeats 400000 in
theorem sample_any (w : World) : Calls Try.prog 44 #[] w (SamplePost w) := by
  go_enter Try.func44, Try.ntmps44
  go_wp2_with fail
  exact ret_node rfl rfl (heap_alloc2_old w _ _) rfl ⟨w.heap.size + 1, rfl, by omega, heap_alloc2_new w _ _, ((Below.refl _ w).alloc (Nat.le_refl _) _).alloc (by simp) _⟩

theorem sample_rep {w' : World} {g lo : Nat} (hlo : lo ≤ g) (hg : w'.heap[g]? = some (.cells #[.int .u8 2, .int .i64 0, .string ⟨#[120]⟩, .slice none 0 0, .int .u8 1, .int .i64 1, .string ⟨#[]⟩, .slice none 0 0] 24 (0, 0))) : RepP w' (fun b => lo ≤ b ∧ b < w'.heap.size) sampleT (.agg #[.int .u8 40, .int .i64 0, .string ⟨#[]⟩, .slice (some ⟨g, 0, none⟩) 2 2]) := by
  have hlt := (Array.getElem?_eq_some_iff.1 hg).1
  unfold sampleT
  simp only [RepP]
  refine ⟨some ⟨g, 0, none⟩, 2, rfl, ⟨by omega, by omega, by omega, by omega, by decide, by simp, by omega⟩, ?_⟩
  simp only [RowP]
  refine ⟨⟨g, 0, _, _, _, _, rfl, ⟨hlo, hlt⟩, cell_of_row _ _ _ _ _ _ hg, cell_of_row _ _ _ _ _ _ hg, cell_of_row _ _ _ _ _ _ hg, cell_of_row _ _ _ _ _ _ hg, ?_⟩, ⟨g, 0, _, _, _, _, rfl, ⟨hlo, hlt⟩, cell_of_row _ _ _ _ _ _ hg, cell_of_row _ _ _ _ _ _ hg, cell_of_row _ _ _ _ _ _ hg, cell_of_row _ _ _ _ _ _ hg, ?_⟩, trivial⟩
  · exact ⟨none, 0, rfl, ⟨by omega, by omega, by omega, by omega, by decide, by simp, by omega⟩, trivial⟩
  · exact ⟨none, 0, rfl, ⟨by omega, by omega, by omega, by omega, by decide, by simp, by omega⟩, trivial⟩

theorem sample_walk : walkL [] sampleT = [([], sampleT), ([0], .mk 2 0 ⟨#[120]⟩ []), ([1], .mk 1 1 ⟨#[]⟩ [])] := by simp [sampleT, walkL, walksL]

theorem sample_facts : sampleT.size = 3 ∧ sampleT.depth = 2 ∧ stmtB sampleT = true ∧ blockB sampleT = false ∧ exprB sampleT = false := by
  refine ⟨by simp [sampleT, Tr.size, Tr.sizes], by simp [sampleT, Tr.depth, Tr.depths], ?_, ?_, ?_⟩
  · kernel_rfl
  · kernel_rfl
  · kernel_rfl

end Go.Proofs.Ytkngdmilgfgclaa
