/- Size, Depth: the walks. -/
import Derived.Test.YtkngdmilgfgclaaProg
import Derived.Test.YtkngdmilgfgclaaTree
import Derived.KernelRfl
import Derived.Deep.LoopGhost
import Derived.Deep.Light
import Derived.Outline
namespace Go.Proofs.Ytkngdmilgfgclaa
open Go.RowKit

set_option maxHeartbeats 400000 in
theorem size_any (t : Tr) : ∀ (v : Value) (w : World), Rep w w.heap.size t v → t.size ≤ 4611686018427387904 →
    Calls Try.prog 31 #[v] w fun e w' => e = .returned (.int .i64 t.size) ∧ Below w.heap.size w w' := by
  induction t using Tr.ind with
  | h k n s c ih =>
    intro v w hr hsz
    simp only [Rep] at hr
    obtain ⟨A, cap, rfl, hf, hrow⟩ := hr
    have hl := hf.l1
    have hc := hf.c1
    have HR := Lib.hid hrow
    have IH := Lib.hid ih
    clear hrow ih
    unfold nodeV
    simp only [Tr.size] at hsz
    go_enter Try.func31, Try.ntmps31
    go_wp2_with fail
    go_loopw [3, 9] (fun s3 s9 wr => ∃ i : Nat, i ≤ c.length ∧ s9 = .int .i64 i ∧ s3 = .int .i64 ((Tr.sizes (c.take i) + 1 : Nat) : Int) ∧ Below w.heap.size w wr)
      (fun _ s9 _ => c.length - (intOf s9).toNat)
    case atStart => exact ⟨0, Nat.zero_le _, rfl, by simp [Tr.sizes], (Below.refl _ _).alloc (Nat.le_refl _) _⟩
    case round =>
      obtain ⟨i, hi, rfl, rfl, hb⟩ := hrel
      have hle := Tr.sizes_take_le c i
      by_cases hlt : i < c.length
      · obtain ⟨b, off, A', cap', rfl, hbB, h0, h1, h2, h3, hk⟩ := (HR.out.below hb).kid i hlt
        have htk := Tr.sizes_take c i hlt
        have hmem : c[i] ∈ c := List.getElem_mem hlt
        have hsz1 := Tr.size_le_of_mem hmem
        have HTK := Lib.hid htk
        clear htk
        have hws := hb.size
        go_wp2_with fail
        refine (IH.out _ hmem _ _ (hk.alloc hws _) (by omega)).mono ?_
        rintro e w1 ⟨rfl, hb1⟩
        have hb2 := (hb.alloc hws _).trans (hb1.mono (by simp; omega))
        clear hb1
        go_wp2_with fail
        go_roundw
        case rel => exact ⟨i + 1, by omega, by go_num, by rw [HTK.out]; go_num, hb2⟩
        case measure => simp [intOf]; omega
      · go_wp2_with fail
        go_ret
        obtain rfl : i = c.length := by omega
        exact ⟨by simp [Tr.size], hb⟩

end Go.Proofs.Ytkngdmilgfgclaa
