import Derived.Test.YtjikokmhknnnoaaBA
import Derived.Test.YtjikokmhknnnoaaKinds
/- Clone: a copy in new memory. -/
namespace Go.Proofs.Ytjikokmhknnnoaa
open Go.RowKit Go.Shelf

/-- a call that makes a new node: it reads as t, in blocks that are new; nothing that lay there turns -/
def Makes (t : Tr) (w : World) (e : Ending) (w' : World) : Prop :=
  ∃ v', e = .returned v' ∧ RepP w' (fun b => w.heap.size ≤ b ∧ b < w'.heap.size) t v' ∧ Below w.heap.size w w'

theorem nodeOf {w : World} {ok : Nat → Prop} {t : Tr} {v : Value} (h : RepP w ok t v) : ∃ (A : Option Addr) (cap : Nat), v = nodeV t.kind t.num t.name A t.kids.length cap ∧ Fits t.kind t.num t.name t.kids.length cap ∧ RowP w ok t.kids A 0 := by
  cases t with
  | mk k n s c =>
    simp only [RepP] at h
    exact h

/-- two boxes of four cells that were laid first -/
theorem two_boxes {w wr : World} {a b : Array Value} {t t' : Nat} (hb : Below (w.heap.size + 2) ((w.alloc (.cells a t)).alloc (.cells b t')) wr) :
    wr.heap[w.heap.size]? = some (.cells a t (0, 0)) ∧ wr.heap[w.heap.size + 1]? = some (.cells b t' (0, 0)) :=
  ⟨(hb.block _ (by omega)).trans (heap_alloc2_old w _ _), (hb.block _ (by omega)).trans (heap_alloc2_new w _ _)⟩

theorem set4 {W : World} {g t : Nat} {x0 x1 x2 x3 : Value} (a0 a1 a2 a3 : Value) (h : W.heap[g]? = some (.cells #[x0, x1, x2, x3] t (0, 0))) :
    ((((W.setCell ⟨g, 0, none⟩ a0).setCell ⟨g, 1, none⟩ a1).setCell ⟨g, 2, none⟩ a2).setCell ⟨g, 3, none⟩ a3).heap[g]? = some (.cells #[a0, a1, a2, a3] t (0, 0)) :=
  heap_setCell_same _ _ 3 _ _ a3 (heap_setCell_same _ _ 2 _ _ a2 (heap_setCell_same _ _ 1 _ _ a1 (heap_setCell_same _ _ 0 _ _ a0 h)))

theorem ret_node {fn : Func} {p : Tmp} (hres : fn.results = #[.cell p 28]) {R : Ending → World → Prop} {a : Act} {W : World} {g : Nat} {x0 x1 x2 x3 : Value}
    (hp : a.tmps.getD p undef = .pointer (some ⟨g, 0, none⟩)) (hg : W.heap[g]? = some (.cells #[x0, x1, x2, x3] 28 (0, 0))) (hd : a.defers = []) (hR : R (.returned (.agg #[x0, x1, x2, x3])) W) : bodyPost Try.prog fn R .ret a W :=
  bodyPost_ret (results_cell_row hres _ _ g _ _ _ _ hp hg Try.underlying28 rfl (by kernel_rfl)) hd hR

end Go.Proofs.Ytjikokmhknnnoaa
