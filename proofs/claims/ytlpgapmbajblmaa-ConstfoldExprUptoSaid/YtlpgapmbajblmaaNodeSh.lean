/- Nodes as a shape; slices of nodes. -/
import Derived.Test.YtlpgapmbajblmaaClone
import Derived.Test.YtlpgapmbajblmaaShape
import Derived.Test.YtlpgapmbajblmaaBJ
import Derived.Test.YtlpgapmbajblmaaBJ
import Derived.Test.YtlpgapmbajblmaaBH
namespace Go.Proofs.Ytlpgapmbajblmaa
open Go.RowKit Go.Shelf

theorem four_at {w : World} {g t : Nat} {x0 x1 x2 x3 : Value} (h : w.heap[g]? = some (.cells #[x0, x1, x2, x3] t (0, 0))) :
    w.cell? ⟨g, 0, none⟩ = some x0 ∧ w.cell? ⟨g, 1, none⟩ = some x1 ∧ w.cell? ⟨g, 2, none⟩ = some x2 ∧ w.cell? ⟨g, 3, none⟩ = some x3 :=
  ⟨cell_of_row _ _ 0 _ _ _ h, cell_of_row _ _ 1 _ _ _ h, cell_of_row _ _ 2 _ _ _ h, cell_of_row _ _ 3 _ _ _ h⟩

theorem nodeCells {w : World} {ok : Nat → Prop} {t : Tr} {cs : List Value} (h : RepP w ok t (.agg cs.toArray)) : ∃ (A : Option Addr) (cap : Nat), cs = [.int .u8 t.kind, .int .i64 t.num, .string t.name, .slice A t.kids.length cap] := by
  obtain ⟨A, cap, hv, _, _⟩ := nodeOf h
  simp only [nodeV, Value.agg.injEq] at hv
  exact ⟨A, cap, by simpa using congrArg Array.toList hv⟩

def shNode : Sh Tr where
  n := 4
  R := fun w ok t cs => RepP w ok t (.agg cs.toArray)
  len := fun h => by obtain ⟨A, cap, rfl⟩ := nodeCells h; rfl
  one := fun h u hu => by
    obtain ⟨A, cap, rfl⟩ := nodeCells h
    simp only [List.mem_cons, List.not_mem_nil, or_false] at hu
    rcases hu with rfl | rfl | rfl | rfl <;> rfl
  keep := fun hB hk h => RepP.keep hB hk _ h

theorem SliceS.row {w : World} {ok : Nat → Prop} {v : Value} {c : List Tr} (h : SliceS shNode w ok v c) : ∃ (A : Option Addr) (cap : Nat), v = .slice A c.length cap ∧ c.length ≤ cap ∧ cap ≤ 9223372036854775807 ∧ RowP w ok c A 0 := by
  obtain ⟨A, cap, hv, h1, h2, _, hc⟩ := h
  refine ⟨A, cap, hv, h1, h2, rowP_of fun j hj => ?_⟩
  obtain ⟨b, off, cs, hA, hb, hcell, hr⟩ := hc j hj
  have hr' : RepP w ok c[j] (.agg cs.toArray) := hr
  obtain ⟨A', cap', rfl⟩ := nodeCells hr'
  have e : off + j * shNode.n = off + j * 4 := rfl
  rw [Nat.zero_add]
  exact ⟨b, off, _, _, _, _, hA, hb, hcell 0 _ rfl, hcell 1 _ rfl, hcell 2 _ rfl, hcell 3 _ rfl, hr'⟩
theorem RowP.slice {w : World} {ok : Nat → Prop} {A : Option Addr} {c : List Tr} {cap : Nat} (h : RowP w ok c A 0) (h1 : c.length ≤ cap) (h2 : cap ≤ 9223372036854775807) (hn : A = none → cap = 0) : SliceS shNode w ok (.slice A c.length cap) c := by
  refine ⟨A, cap, rfl, h1, h2, hn, fun j hj => ?_⟩
  obtain ⟨b, off, c0, c1, c2, c3, hA, hb, h0, h1, h2, h3, hr⟩ := rowP_at h j hj
  rw [Nat.zero_add] at h0 h1 h2 h3
  refine ⟨b, off, [c0, c1, c2, c3], hA, hb, fun m u hu => ?_, hr⟩
  match m, hu with
  | 0, hu => cases hu; exact h0
  | 1, hu => cases hu; exact h1
  | 2, hu => cases hu; exact h2
  | 3, hu => cases hu; exact h3
  | m + 4, hu => simp at hu

end Go.Proofs.Ytlpgapmbajblmaa
