import Derived.Test.YtjikokmhknnnoaaBA
import Derived.Test.YtjikokmhknnnoaaKinds
import Derived.WalkSpells
import Derived.Lib.SliceRun
import Derived.Test.YtjikokmhknnnoaaIter
import Derived.Test.YtjikokmhknnnoaaClone
import Derived.Maps.OwnIn
import Derived.OwnWalkIn
import Derived.TacticsInMore
import Derived.LoopNIn
import Derived.LoopIn
import Derived.Shelf.RegionOpen
import Derived.Outline
import Derived.Laws.EntriesVeiled
/- Slices of ints: read, cloned. -/
namespace Go.Proofs.Ytjikokmhknnnoaa
open Go.RowKit Go.Shelf

/-- the slice value v reads as the ints p; its cells lie in a block that is ok -/
def IntsAt (w : World) (ok : Nat → Prop) (v : Value) (p : List Int) : Prop :=
 ∃ (A : Option Addr) (cap : Nat), v = .slice A p.length cap ∧ p.length ≤ cap ∧ cap ≤ 9223372036854775807 ∧ (A = none → cap = 0) ∧
  ∀ (j : Nat) (h : j < p.length), ∃ b off, A = some ⟨b, off, none⟩ ∧ ok b ∧ w.cell? ⟨b, off + j, none⟩ = some (.int .i64 p[j])

theorem IntsAt.keep {w w' : World} {ok ok' : Nat → Prop} {v : Value} {p : List Int} (h : IntsAt w ok v p) (hB : ∀ b, ok b → ok' b) (hk : ∀ b o, ok b → w'.cell? ⟨b, o, none⟩ = w.cell? ⟨b, o, none⟩) : IntsAt w' ok' v p := by
 obtain ⟨A, cap, hv, h1, h2, hn, hc⟩ := h
 refine ⟨A, cap, hv, h1, h2, hn, fun j hj => ?_⟩
 obtain ⟨b, off, hA, hb, hcell⟩ := hc j hj
 exact ⟨b, off, hA, hB b hb, by rw [hk b _ hb]; exact hcell⟩
theorem IntsAt.nil (w : World) (ok : Nat → Prop) : IntsAt w ok (.slice none 0 0) [] := ⟨none, 0, rfl, Nat.le_refl _, by omega, fun _ => rfl, fun j h => absurd h (Nat.not_lt_zero _)⟩
theorem IntsAt.weak {w : World} {ok ok' : Nat → Prop} {v : Value} {p : List Int} (h : IntsAt w ok v p) (hB : ∀ b, ok b → ok' b) : IntsAt w ok' v p := h.keep hB (fun _ _ _ => rfl)
theorem IntsAt.below {w w' : World} {v : Value} {p : List Int} (h : IntsAt w (fun b => b < w.heap.size) v p) (hb : Below w.heap.size w w') : IntsAt w' (fun b => b < w'.heap.size) v p :=
 h.keep (fun _ hb' => Nat.lt_of_lt_of_le hb' hb.size) (fun b o hb' => hb.cell (p := ⟨b, o, none⟩) hb')

end Go.Proofs.Ytjikokmhknnnoaa

/- Walk: the state of the iterator, and what its steps do to it. -/
namespace Go.Proofs.Ytjikokmhknnnoaa
open Go.RowKit Go.Shelf
/-- the block of the path's own array -/
def pathOwn (W : World) (bp : Nat) : Option Nat :=
 match W.heap[bp]? with
 | some (.cells c _ _) => (c[0]?).bind Value.ownBlock
 | _ => none

/-- what a visit leaves -/
structure Step (bp : Nat) (O O' : Nat → Prop) (W W' : World) : Prop where
 size : W.heap.size ≤ W'.heap.size
 sub : ∀ b, O b → O' b
 same : ∀ b, O b → b ≠ bp → pathOwn W bp ≠ some b → W'.heap[b]? = W.heap[b]?
 own : ∀ g, pathOwn W' bp = some g → pathOwn W bp = some g ∨ W.heap.size ≤ g

theorem Step.refl (bp : Nat) (O : Nat → Prop) (W : World) : Step bp O O W W := ⟨Nat.le_refl _, fun _ h => h, fun _ _ _ _ => rfl, fun _ h => .inl h⟩
theorem Step.trans {bp : Nat} {O O' O'' : Nat → Prop} {A B C : World} (h : Step bp O O' A B) (k : Step bp O' O'' B C) (hlt : ∀ b, O b → b < A.heap.size) : Step bp O O'' A C :=
 ⟨Nat.le_trans h.size k.size, fun b hb => k.sub b (h.sub b hb), fun b hb hne ho => by
  rw [k.same b (h.sub b hb) hne (fun e => (h.own b e).elim ho (fun e => by have := hlt b hb; omega)), h.same b hb hne ho], fun g hg => by
  rcases k.own g hg with e | e
  ·exact h.own g e
  ·exact .inr (Nat.le_trans h.size e)⟩
section
variable {by_ bp bv l base : Nat} {O : Nat → Prop} {p : List Int} {W W' : World}
end
end Go.Proofs.Ytjikokmhknnnoaa

/- Walk: a number pushed onto the path, and taken off again. -/
namespace Go.Proofs.Ytjikokmhknnnoaa
open Go.RowKit Go.Shelf
section
variable {by_ bp bv l base : Nat} {O : Nat → Prop} {p : List Int} {W : World}
end

end Go.Proofs.Ytjikokmhknnnoaa

/- Walk: the visit of one node, by induction on the tree. -/
namespace Go.Proofs.Ytjikokmhknnnoaa
open Go.RowKit Go.Shelf
/-- a kid of the row, cell by cell -/
theorem RowP.kid {w : World} {ok : Nat → Prop} {c : List Tr} {A : Option Addr} (h : RowP w ok c A 0) (j : Nat) (hj : j < c.length) :
  ∃ (b off : Nat) (A' : Option Addr) (cap' : Nat), A = some ⟨b, off, none⟩ ∧ ok b ∧ w.cell? ⟨b, off + j * 4, none⟩ = some (.int .u8 c[j].kind) ∧ w.cell? ⟨b, off + j * 4 + 1, none⟩ = some (.int .i64 c[j].num) ∧
   w.cell? ⟨b, off + j * 4 + 2, none⟩ = some (.string c[j].name) ∧ w.cell? ⟨b, off + j * 4 + 3, none⟩ = some (.slice A' c[j].kids.length cap') ∧
   RepP w ok c[j] (nodeV c[j].kind c[j].num c[j].name A' c[j].kids.length cap') := by
 obtain ⟨b, off, c0, c1, c2, c3, hA, hb, h0, h1, h2, h3, hr⟩ := rowP_at h j hj
 simp only [Nat.zero_add] at h0 h1 h2 h3
 obtain ⟨A', cap', hv, _, _⟩ := nodeOf hr
 have hv' := hv
 simp only [nodeV, Value.agg.injEq, Array.mk.injEq, List.cons.injEq, and_true] at hv'
 obtain ⟨rfl, rfl, rfl, rfl⟩ := hv'
 exact ⟨b, off, A', cap', hA, hb, h0, h1, h2, h3, hr⟩

end Go.Proofs.Ytjikokmhknnnoaa

/- Walk: the iterator, and the function that hands it out. -/
namespace Go.Proofs.Ytjikokmhknnnoaa
open Go.RowKit Go.Shelf
end Go.Proofs.Ytjikokmhknnnoaa
