/- Walk: the state of the iterator, and what its steps do to it. -/
import Derived.Test.YtkngdmilgfgclaaIter
import Derived.Test.YtkngdmilgfgclaaInts
import Derived.Test.YtkngdmilgfgclaaClone
namespace Go.Proofs.Ytkngdmilgfgclaa
open Go.RowKit Go.Shelf

mutual
/-- the nodes of a tree in pre-order, each with its path -/
def walkL : List Int → Tr → List (List Int × Tr)
  | p, .mk k n s c => (p, .mk k n s c) :: walksL p 0 c
def walksL : List Int → Nat → List Tr → List (List Int × Tr)
  | _, _, [] => []
  | p, i, t :: r => walkL (p ++ [(i : Int)]) t ++ walksL p (i + 1) r
end

theorem walksL_append (p : List Int) : ∀ (a b : List Tr) (i : Nat), walksL p i (a ++ b) = walksL p i a ++ walksL p (i + a.length) b
  | [], b, i => by simp [walksL]
  | t :: r, b, i => by
    simp only [List.cons_append, walksL, walksL_append p r b (i + 1), List.length_cons, List.append_assoc]
    rw [show i + 1 + r.length = i + (r.length + 1) from by omega]
theorem walksL_take (p : List Int) (c : List Tr) (i : Nat) (h : i < c.length) : walksL p 0 (c.take (i + 1)) = walksL p 0 (c.take i) ++ walkL (p ++ [(i : Int)]) c[i] := by
  rw [Tr.take_snoc c i h, walksL_append]
  simp only [walksL, List.append_nil, List.length_take, Nat.zero_add]
  rw [Nat.min_eq_left (by omega)]
theorem walksL_take_prefix (p : List Int) (c : List Tr) (i : Nat) : walksL p 0 (c.take i) <+: walksL p 0 c := by
  have h := walksL_append p (c.take i) (c.drop i) 0
  rw [List.take_append_drop] at h
  exact ⟨_, h.symm⟩

/-- the block of the path's own array -/
def pathOwn (W : World) (bp : Nat) : Option Nat :=
  match W.heap[bp]? with
  | some (.cells c _ _) => (c[0]?).bind Value.ownBlock
  | _ => none

theorem pathOwn_of {W : World} {bp : Nat} {v : Value} {t : TypeId} (h : W.heap[bp]? = some (.cells #[v] t (0, 0))) : pathOwn W bp = v.ownBlock := by
  simp [pathOwn, h]

/-- the iterator's state at a node: the three boxes, the path -/
structure It (by_ bp bv l base : Nat) (O : Nat → Prop) (p : List Int) (W : World) : Prop where
  hy : W.heap[by_]? = some (.cells #[.func (.yield l) #[] #[]] 63 (0, 0))
  hv : W.heap[bv]? = some (.cells #[.func (.func 54) #[] #[.pointer (some ⟨by_, 0, none⟩), .pointer (some ⟨bp, 0, none⟩), .pointer (some ⟨bv, 0, none⟩)]] 26 (0, 0))
  hp : ∃ vp, W.heap[bp]? = some (.cells #[vp] 33 (0, 0)) ∧ W.ownsRow base 3 1 vp p.length (p.map (Value.int .i64)) ∧ (∀ g, vp.ownBlock = some g → O g)
  oy : O by_
  op : O bp
  ov : O bv
  lt : ∀ b, O b → b < W.heap.size
  by0 : base ≤ by_
  bp0 : base ≤ bp
  bv0 : base ≤ bv

/-- what a visit leaves -/
structure Step (bp : Nat) (O O' : Nat → Prop) (W W' : World) : Prop where
  size : W.heap.size ≤ W'.heap.size
  sub : ∀ b, O b → O' b
  same : ∀ b, O b → b ≠ bp → pathOwn W bp ≠ some b → W'.heap[b]? = W.heap[b]?
  own : ∀ g, pathOwn W' bp = some g → pathOwn W bp = some g ∨ W.heap.size ≤ g

theorem Step.refl (bp : Nat) (O : Nat → Prop) (W : World) : Step bp O O W W := ⟨Nat.le_refl _, fun _ h => h, fun _ _ _ _ => rfl, fun _ h => .inl h⟩
theorem Step.trans {bp : Nat} {O O' O'' : Nat → Prop} {A B C : World} (h : Step bp O O' A B) (k : Step bp O' O'' B C) (hlt : ∀ b, O b → b < A.heap.size) : Step bp O O'' A C :=
  ⟨Nat.le_trans h.size k.size, fun b hb => k.sub b (h.sub b hb), fun b hb hne ho => by
    rw [k.same b (h.sub b hb) hne (fun e => (h.own b e).elim ho (fun e => by have := hlt b hb; omega)), h.same b hb hne ho], fun g hg => by
    rcases k.own g hg with e | e
    · exact h.own g e
    · exact .inr (Nat.le_trans h.size e)⟩
/-- a round keeps all -/
theorem Step.of_keeps {bp : Nat} {O : Nat → Prop} {A B : World} (h : KeepsO O A B) (hbp : O bp) : Step bp O O A B :=
  ⟨h.size, fun _ h => h, fun b hb _ _ => h.block b hb, fun g hg => .inl (by unfold pathOwn at hg ⊢; rwa [h.block bp hbp] at hg)⟩

section
variable {by_ bp bv l base : Nat} {O : Nat → Prop} {p : List Int} {W W' : World}
theorem It.keeps (h : It by_ bp bv l base O p W) (k : KeepsO O W W') : It by_ bp bv l base O p W' := by
  obtain ⟨vp, hb, ho, hg⟩ := h.hp
  refine ⟨(k.block _ h.oy).trans h.hy, (k.block _ h.ov).trans h.hv, ⟨vp, (k.block _ h.op).trans hb, ?_, hg⟩, h.oy, h.op, h.ov, k.lt h.lt, h.by0, h.bp0, h.bv0⟩
  refine ⟨ho.1, ?_⟩
  rcases ho.2 with h0 | ⟨g, cap, cur, hv, hbg, hgg, r⟩
  · exact .inl h0
  · exact .inr ⟨g, cap, cur, hv, hbg, (k.block g (hg g (by rw [hv]; rfl))).trans hgg, r⟩
theorem It.more (h : It by_ bp bv l base O p W) {O' : Nat → Prop} (hs : ∀ b, O b → O' b) (hl : ∀ b, O' b → b < W.heap.size) : It by_ bp bv l base O' p W := by
  obtain ⟨vp, hb, ho, hg⟩ := h.hp
  exact ⟨h.hy, h.hv, ⟨vp, hb, ho, fun g e => hs g (hg g e)⟩, hs _ h.oy, hs _ h.op, hs _ h.ov, hl, h.by0, h.bp0, h.bv0⟩
end

/-- what a round is handed -/
def walkArgs (x : List Int × Tr) (O : Nat → Prop) (W : World) (args : Array Value) : Prop :=
  ∃ vp vn, args = #[vp, vn] ∧ IntsAt W (fun b => ¬ O b ∧ b < W.heap.size) vp x.1 ∧ Rep W W.heap.size x.2 vn

end Go.Proofs.Ytkngdmilgfgclaa
