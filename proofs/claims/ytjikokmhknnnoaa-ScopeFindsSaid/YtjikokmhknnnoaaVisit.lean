/- Walk: the visit of one node, by induction on the tree. -/
import Derived.Test.YtjikokmhknnnoaaWalkPush
import Derived.Maps.OwnIn
import Derived.OwnWalkIn
import Derived.TacticsInMore
import Derived.LoopNIn
import Derived.LoopIn
import Derived.Shelf.RegionOpen
import Derived.Outline
namespace Go.Proofs.Ytjikokmhknnnoaa
open Go.RowKit Go.Shelf
theorem visit_prefix {L pre : List (List Int × Tr)} {p : List Int} {k n0 : Int} {s : ByteArray} {c : List Tr} (h : (pre ++ walkL p (.mk k n0 s c)) <+: L) : (pre ++ [(p, .mk k n0 s c)]) <+: L := by
  refine List.IsPrefix.trans ⟨walksL p 0 c, ?_⟩ h
  simp [walkL]
theorem Below.undrew {B : Nat} {a w : World} (h : Below B a.drew w) : Below B a w := ⟨h.os, h.tape, h.output, h.size, h.block⟩
theorem hdw (m : Nat) : Fence.wide.depth.isSome = true → 1 ≤ m := fun h => by simp [Fence.wide] at h

/-- the round at this node -/
theorem visit_yield {l base base0 : Nat} (hb0 : base0 ≤ base) {L pre : List (List Int × Tr)} {J Jx : List (List Int × Tr) → (Nat → Prop) → World → Prop} (hJ : Abides base J)
    (hY : ∀ m pre x O X args W1, (pre ++ [x]) <+: L → J pre (fun b => O b ∨ X b) W1 → (∀ b, X b → base0 ≤ b ∧ ¬ O b) → walkArgs x X W1 args → YieldAt .wide m Try.prog l args W1 fun e W' =>
      (e = .returned (.bool true) ∧ J (pre ++ [x]) O W' ∧ KeepsO O W1 W') ∨ (e = .returned (.bool false) ∧ Jx (pre ++ [x]) O W'))
    {p : List Int} {k n0 : Int} {s : ByteArray} {c : List Tr} (hpre : (pre ++ walkL p (.mk k n0 s c)) <+: L) {O1 : Nat → Prop} {B w2 w3 : World} {vpc vnc : Value} (hlt : ∀ b, O1 b → b < B.heap.size) (hbB : base ≤ B.heap.size) (hj : J pre O1 B)
    (hb3 : Below B.heap.size B w3) (hic : IntsAt w2 (fun b => B.drew.heap.size ≤ b ∧ b < w2.heap.size) vpc p) (hb23 : Below w2.heap.size w2 w3) (_hb2 : Below B.heap.size B w2)
    (hrc : RepP w3 (fun b => w2.heap.size ≤ b ∧ b < w3.heap.size) (.mk k n0 s c) vnc) (m : Nat) :
    YieldAt .wide m Try.prog l #[vpc, vnc] w3 fun e W' => ∃ bb : Bool, e = .returned (.bool bb) ∧ ((bb = true ∧ J (pre ++ [(p, .mk k n0 s c)]) O1 W' ∧ KeepsO O1 B W') ∨ (bb = false ∧ Jx (pre ++ [(p, .mk k n0 s c)]) O1 W')) := by
  have hj3 := hJ _ _ _ _ _ hj (Moves.keep (X := fun b => B.heap.size ≤ b ∧ b < w3.heap.size) hb3 hlt (fun b hb => hb) hbB)
  have hargs : walkArgs (p, .mk k n0 s c) (fun b => B.heap.size ≤ b ∧ b < w3.heap.size) w3 #[vpc, vnc] := by
    refine ⟨fun b hb => hb.2, vpc, vnc, rfl, ?_, RepP.keep (fun b hb => ⟨by have h2 := _hb2.size; omega, hb.2⟩) (fun _ _ _ => rfl) _ hrc⟩
    exact hic.keep (fun b hb => ⟨hb.1, Nat.lt_of_lt_of_le hb.2 hb23.size⟩) (fun b o hb => hb23.cell (p := ⟨b, o, none⟩) hb.2)
  refine YieldAt.mono (hY m _ _ _ _ _ _ (visit_prefix hpre) hj3 (fun b hb => ⟨by have := hb.1; omega, fun e => by have h1 := hlt b e; have h2 := hb.1; omega⟩) hargs) fun e W' h => ?_
  rcases h with ⟨he, hj', hk⟩ | ⟨he, hx⟩
  · exact ⟨true, he, .inl ⟨rfl, hj', (KeepsO.of_below hb3 hlt).trans hk⟩⟩
  · exact ⟨false, he, .inr ⟨rfl, hx⟩⟩

/-- a kid of the row, cell by cell -/
theorem RowP.kid {w : World} {ok : Nat → Prop} {c : List Tr} {A : Option Addr} (h : RowP w ok c A 0) (j : Nat) (hj : j < c.length) :
    ∃ (b off : Nat) (A' : Option Addr) (cap' : Nat), A = some ⟨b, off, none⟩ ∧ ok b ∧ w.cell? ⟨b, off + j * 4, none⟩ = some (.int .u8 c[j].kind) ∧ w.cell? ⟨b, off + j * 4 + 1, none⟩ = some (.int .i64 c[j].num) ∧
      w.cell? ⟨b, off + j * 4 + 2, none⟩ = some (.string c[j].name) ∧ w.cell? ⟨b, off + j * 4 + 3, none⟩ = some (.slice A' c[j].kids.length cap') ∧
      RepP w ok c[j] (nodeV c[j].kind c[j].num c[j].name A' c[j].kids.length cap') := by
  obtain ⟨b, off, c0, c1, c2, c3, hA, hb, h0, h1, h2, h3, hr⟩ := rowP_at h j hj
  simp only [Nat.zero_add] at h0 h1 h2 h3
  obtain ⟨A', cap', hv, _, _⟩ := nodeOf hr
  have hv' := hv
  simp only [nodeV, Value.agg.injEq, Array.mk.injEq, List.cons.injEq, and_true] at hv'
  obtain ⟨rfl, rfl, rfl, rfl⟩ := hv'
  exact ⟨b, off, A', cap', hA, hb, h0, h1, h2, h3, hr⟩

theorem visit_prefix2 {L pre : List (List Int × Tr)} {p : List Int} {k n0 : Int} {s : ByteArray} {c : List Tr} {i : Nat} (h : (pre ++ walkL p (.mk k n0 s c)) <+: L) (hi : i < c.length) :
    (pre ++ [(p, .mk k n0 s c)] ++ walksL p 0 (c.take i) ++ walkL (p ++ [(i : Int)]) c[i]) <+: L := by
  obtain ⟨r, hr⟩ := walksL_take_prefix p c (i + 1)
  rw [walksL_take p c i hi] at hr
  refine List.IsPrefix.trans ⟨r, ?_⟩ h
  simp only [walkL, ← hr, List.append_assoc, List.cons_append, List.nil_append]

end Go.Proofs.Ytjikokmhknnnoaa
