import Derived.Test.YtjikokmhknnnoaaBA
import Derived.Test.YtjikokmhknnnoaaKinds
import Derived.WalkSpells
import Derived.Lib.SliceRun
import Derived.Test.YtjikokmhknnnoaaIter
import Derived.Test.YtjikokmhknnnoaaClone
import Derived.Maps.OwnIn
import Derived.OwnWalkIn
import Derived.TacticsInMore
import Derived.LoopNIn
import Derived.LoopIn
import Derived.Shelf.RegionOpen
import Derived.Outline
import Derived.Laws.EntriesVeiled
/- Slices of ints: read, cloned. -/
namespace Go.Proofs.Ytjikokmhknnnoaa
open Go.RowKit Go.Shelf

/-- the slice value v reads as the ints p; its cells lie in a block that is ok -/
def IntsAt (w : World) (ok : Nat → Prop) (v : Value) (p : List Int) : Prop :=
  ∃ (A : Option Addr) (cap : Nat), v = .slice A p.length cap ∧ p.length ≤ cap ∧ cap ≤ 9223372036854775807 ∧ (A = none → cap = 0) ∧
    ∀ (j : Nat) (h : j < p.length), ∃ b off, A = some ⟨b, off, none⟩ ∧ ok b ∧ w.cell? ⟨b, off + j, none⟩ = some (.int .i64 p[j])

theorem IntsAt.keep {w w' : World} {ok ok' : Nat → Prop} {v : Value} {p : List Int} (h : IntsAt w ok v p) (hB : ∀ b, ok b → ok' b) (hk : ∀ b o, ok b → w'.cell? ⟨b, o, none⟩ = w.cell? ⟨b, o, none⟩) : IntsAt w' ok' v p := by
  obtain ⟨A, cap, hv, h1, h2, hn, hc⟩ := h
  refine ⟨A, cap, hv, h1, h2, hn, fun j hj => ?_⟩
  obtain ⟨b, off, hA, hb, hcell⟩ := hc j hj
  exact ⟨b, off, hA, hB b hb, by rw [hk b _ hb]; exact hcell⟩
theorem IntsAt.nil (w : World) (ok : Nat → Prop) : IntsAt w ok (.slice none 0 0) [] := ⟨none, 0, rfl, Nat.le_refl _, by omega, fun _ => rfl, fun j h => absurd h (Nat.not_lt_zero _)⟩
theorem IntsAt.weak {w : World} {ok ok' : Nat → Prop} {v : Value} {p : List Int} (h : IntsAt w ok v p) (hB : ∀ b, ok b → ok' b) : IntsAt w ok' v p := h.keep hB (fun _ _ _ => rfl)
theorem IntsAt.below {w w' : World} {v : Value} {p : List Int} (h : IntsAt w (fun b => b < w.heap.size) v p) (hb : Below w.heap.size w w') : IntsAt w' (fun b => b < w'.heap.size) v p :=
  h.keep (fun _ hb' => Nat.lt_of_lt_of_le hb' hb.size) (fun b o hb' => hb.cell (p := ⟨b, o, none⟩) hb')

/-- a row of ints of the call's own -/
theorem IntsAt.of_own {w : World} {base : Nat} {e : TypeId} {v : Value} {p : List Int} (h : w.ownsRow base e 1 v p.length (p.map (Value.int .i64))) : IntsAt w (fun b => v.ownBlock = some b ∧ base ≤ b ∧ b < w.heap.size) v p := by
  rcases h.2 with ⟨rfl, h0⟩ | ⟨g, cap, cur, rfl, hb, hg, hnc, hcm, hcs, htake⟩
  · have : p = [] := List.eq_nil_of_length_eq_zero h0
    subst this
    exact IntsAt.nil _ _
  · have hlt := (Array.getElem?_eq_some_iff.1 hg).1
    refine ⟨some ⟨g, 0, none⟩, cap, rfl, hnc, by simpa [maxLen] using hcm, (fun e => by cases e), fun j hj => ⟨g, 0, rfl, ⟨rfl, hb, hlt⟩, ?_⟩⟩
    have := h.cells (g := g) rfl j (.int .i64 p[j]) (by simp [hj])
    have hadd : (⟨g, 0, none⟩ : Addr).add j = ⟨g, j, none⟩ := by unfold Addr.add; split <;> simp_all
    rw [hadd] at this
    simpa using this

theorem infoInt : (Try.prog.info? 3).map (fun i => (i.zero, i.size, i.bytes)) = some (some (.int .i64 0), 1, 8) := by kernel_rfl
theorem undInts : Try.prog.underlying 48 = some (.slice 3) := by kernel_rfl

def MakesInts (p : List Int) (w : World) (e : Ending) (w' : World) : Prop :=
  ∃ v', e = .returned v' ∧ IntsAt w' (fun b => w.heap.size ≤ b ∧ b < w'.heap.size) v' p ∧ Below w.heap.size w w'

set_option maxHeartbeats 400000 in
theorem sclone_any (v : Value) (p : List Int) (w : World) (h : IntsAt w (fun b => b < w.heap.size) v p) (hp : p.length ≤ 1000000) : Calls Try.prog 45 #[v] w (MakesInts p w) := by
  obtain ⟨A, cap, rfl, h1, h2, hn, hc⟩ := h
  have HC := Lib.hid hc
  clear hc
  have hnil := fun (W : World) (a : Option Addr) (n c : Nat) => Lib.run_eql_slice_nil (P := Try.prog) W _ _ a n c 0 0 undInts
  cases A with
  | none =>
    have hp0 : p = [] := by
      cases p with
      | nil => rfl
      | cons x r => obtain ⟨b, off, e, _⟩ := HC.out 0 (by simp); cases e
    subst hp0
    go_enter Try.func45, Try.ntmps45
    go_wp2_with fail
    go_ret
    exact ⟨_, rfl, IntsAt.nil _ _, Below.refl _ _⟩
  | some ad =>
    obtain ⟨i0, hi0, hz0, hz1, hz2⟩ := info_parts infoInt
    have hown : (w.alloc (.cells #[] 3)).ownsRow w.heap.size 3 1 (.slice (some ⟨w.heap.size, 0, none⟩) 0 0) 0 [] := World.ownsRow_made w #[] 0 (Nat.le_refl _) (by simp [maxLen]) rfl
    have hnews : ∀ j u, (p.map (Value.int .i64))[j]? = some u → (w.alloc (.cells #[] 3)).cell? (ad.add j) = some u := by
      intro j u hu
      rw [List.getElem?_map] at hu
      have hj : j < p.length := by
        rcases Nat.lt_or_ge j p.length with hlt | hge
        · exact hlt
        · rw [List.getElem?_eq_none hge] at hu; cases hu
      obtain ⟨b, off, e, hb, hcell⟩ := HC.out j hj
      cases e
      rw [List.getElem?_eq_getElem hj] at hu
      cases hu
      have hadd : (⟨b, off, none⟩ : Addr).add j = ⟨b, off + j, none⟩ := by unfold Addr.add; split <;> simp_all
      rw [hadd]
      exact (World.cell?_alloc_lt w _ ⟨b, off + j, none⟩ hb).trans hcell
    have HN := Lib.hid hnews
    have HO := Lib.hid hown
    clear hnews hown
    go_enter Try.func45, Try.ntmps45
    go_wp2_with (at_builtin; (refine wpList_append_own_at _ rfl (.tmp 5) (.tmp 6) _ rfl w.heap.size 3 i0 _ 1 8 undInts hi0 hz0 hz1 hz2 rfl (by omega) _ 0 [] rfl HO.out ad p.length cap (p.map (Value.int .i64)) rfl (by simp) HN.out (by intro u hu; obtain ⟨x, _, rfl⟩ := List.mem_map.1 hu; rfl) (by simp only [maxLen]; omega) (by omega) (by simp) ?_); intro v2 w2 hO2 hg2 _ _)
    go_ret
    have hb2 : Below w.heap.size w w2 := ((Below.refl _ w).alloc (Nat.le_refl _) _).grown hg2 (by simp) (fun k e => by cases e; exact Nat.le_refl _)
    simp only [Nat.zero_add, List.nil_append] at hO2
    exact ⟨_, rfl, (IntsAt.of_own hO2).weak fun b hb => hb.2, hb2⟩

end Go.Proofs.Ytjikokmhknnnoaa

/- Walk: the state of the iterator, and what its steps do to it. -/
namespace Go.Proofs.Ytjikokmhknnnoaa
open Go.RowKit Go.Shelf

mutual
/-- the nodes of a tree in pre-order, each with its path -/
def walkL : List Int → Tr → List (List Int × Tr)
  | p, .mk k n s c => (p, .mk k n s c) :: walksL p 0 c
def walksL : List Int → Nat → List Tr → List (List Int × Tr)
  | _, _, [] => []
  | p, i, t :: r => walkL (p ++ [(i : Int)]) t ++ walksL p (i + 1) r
end

theorem walksL_append (p : List Int) : ∀ (a b : List Tr) (i : Nat), walksL p i (a ++ b) = walksL p i a ++ walksL p (i + a.length) b
  | [], b, i => by simp [walksL]
  | t :: r, b, i => by
    simp only [List.cons_append, walksL, walksL_append p r b (i + 1), List.length_cons, List.append_assoc]
    rw [show i + 1 + r.length = i + (r.length + 1) from by omega]
theorem walksL_take (p : List Int) (c : List Tr) (i : Nat) (h : i < c.length) : walksL p 0 (c.take (i + 1)) = walksL p 0 (c.take i) ++ walkL (p ++ [(i : Int)]) c[i] := by
  rw [Tr.take_snoc c i h, walksL_append]
  simp only [walksL, List.append_nil, List.length_take, Nat.zero_add]
  rw [Nat.min_eq_left (by omega)]
theorem walksL_take_prefix (p : List Int) (c : List Tr) (i : Nat) : walksL p 0 (c.take i) <+: walksL p 0 c := by
  have h := walksL_append p (c.take i) (c.drop i) 0
  rw [List.take_append_drop] at h
  exact ⟨_, h.symm⟩

/-- the block of the path's own array -/
def pathOwn (W : World) (bp : Nat) : Option Nat :=
  match W.heap[bp]? with
  | some (.cells c _ _) => (c[0]?).bind Value.ownBlock
  | _ => none

theorem pathOwn_of {W : World} {bp : Nat} {v : Value} {t : TypeId} (h : W.heap[bp]? = some (.cells #[v] t (0, 0))) : pathOwn W bp = v.ownBlock := by
  simp [pathOwn, h]

/-- what a visit leaves -/
structure Step (bp : Nat) (O O' : Nat → Prop) (W W' : World) : Prop where
  size : W.heap.size ≤ W'.heap.size
  sub : ∀ b, O b → O' b
  same : ∀ b, O b → b ≠ bp → pathOwn W bp ≠ some b → W'.heap[b]? = W.heap[b]?
  own : ∀ g, pathOwn W' bp = some g → pathOwn W bp = some g ∨ W.heap.size ≤ g

theorem Step.refl (bp : Nat) (O : Nat → Prop) (W : World) : Step bp O O W W := ⟨Nat.le_refl _, fun _ h => h, fun _ _ _ _ => rfl, fun _ h => .inl h⟩
theorem Step.trans {bp : Nat} {O O' O'' : Nat → Prop} {A B C : World} (h : Step bp O O' A B) (k : Step bp O' O'' B C) (hlt : ∀ b, O b → b < A.heap.size) : Step bp O O'' A C :=
  ⟨Nat.le_trans h.size k.size, fun b hb => k.sub b (h.sub b hb), fun b hb hne ho => by
    rw [k.same b (h.sub b hb) hne (fun e => (h.own b e).elim ho (fun e => by have := hlt b hb; omega)), h.same b hb hne ho], fun g hg => by
    rcases k.own g hg with e | e
    · exact h.own g e
    · exact .inr (Nat.le_trans h.size e)⟩
/-- a round keeps all -/
theorem Step.of_keeps {bp : Nat} {O : Nat → Prop} {A B : World} (h : KeepsO O A B) (hbp : O bp) : Step bp O O A B :=
  ⟨h.size, fun _ h => h, fun b hb _ _ => h.block b hb, fun g hg => .inl (by unfold pathOwn at hg ⊢; rwa [h.block bp hbp] at hg)⟩

section
variable {by_ bp bv l base : Nat} {O : Nat → Prop} {p : List Int} {W W' : World}
end

/-- what a round is handed -/
def walkArgs (x : List Int × Tr) (X : Nat → Prop) (W : World) (args : Array Value) : Prop :=
  (∀ b, X b → b < W.heap.size) ∧
  ∃ vp vn, args = #[vp, vn] ∧ IntsAt W X vp x.1 ∧ RepP W X x.2 vn

end Go.Proofs.Ytjikokmhknnnoaa

/- Walk: a number pushed onto the path, and taken off again. -/
namespace Go.Proofs.Ytjikokmhknnnoaa
open Go.RowKit Go.Shelf

theorem ownsRow_kept' {w w' : World} {base : Nat} {e : TypeId} {size : Nat} {v : Value} {n : Nat} {xs : List Value} (h : w.ownsRow base e size v n xs) (hk : ∀ g, v.ownBlock = some g → w'.heap[g]? = w.heap[g]?) : w'.ownsRow base e size v n xs := by
  refine ⟨h.1, ?_⟩
  rcases h.2 with h0 | ⟨g, cap, cur, hv, hbg, hgg, r⟩
  · exact .inl h0
  · exact .inr ⟨g, cap, cur, hv, hbg, (hk g (by rw [hv]; rfl)).trans hgg, r⟩

section
variable {by_ bp bv l base : Nat} {O : Nat → Prop} {p : List Int} {W : World}

/-- the path's own array is none of the three boxes, nor a block that is not ints -/
theorem own_ne {W : World} {base : Nat} {vp : Value} {n : Nat} {xs : List Value} {b : Nat} {cs : Array Value} {t : TypeId} (h : W.ownsRow base 3 1 vp n xs) (hb : W.heap[b]? = some (.cells cs t (0, 0))) (ht : t ≠ 3) : vp.ownBlock ≠ some b := by
  rcases h.2 with ⟨rfl, _⟩ | ⟨g, cap, cur, rfl, _, hg, _⟩
  · simp [Value.ownBlock]
  · intro e
    have : g = b := by simpa [Value.ownBlock] using e
    subst this
    rw [hg] at hb
    cases hb
    exact ht rfl

end

end Go.Proofs.Ytjikokmhknnnoaa

/- Walk: the visit of one node, by induction on the tree. -/
namespace Go.Proofs.Ytjikokmhknnnoaa
open Go.RowKit Go.Shelf
theorem visit_prefix {L pre : List (List Int × Tr)} {p : List Int} {k n0 : Int} {s : ByteArray} {c : List Tr} (h : (pre ++ walkL p (.mk k n0 s c)) <+: L) : (pre ++ [(p, .mk k n0 s c)]) <+: L := by
  refine List.IsPrefix.trans ⟨walksL p 0 c, ?_⟩ h
  simp [walkL]
theorem Below.undrew {B : Nat} {a w : World} (h : Below B a.drew w) : Below B a w := ⟨h.os, h.tape, h.output, h.size, h.block⟩
theorem hdw (m : Nat) : Fence.wide.depth.isSome = true → 1 ≤ m := fun h => by simp [Fence.wide] at h

/-- the round at this node -/
theorem visit_yield {l base base0 : Nat} (hb0 : base0 ≤ base) {L pre : List (List Int × Tr)} {J Jx : List (List Int × Tr) → (Nat → Prop) → World → Prop} (hJ : Abides base J)
    (hY : ∀ m pre x O X args W1, (pre ++ [x]) <+: L → J pre (fun b => O b ∨ X b) W1 → (∀ b, X b → base0 ≤ b ∧ ¬ O b) → walkArgs x X W1 args → YieldAt .wide m Try.prog l args W1 fun e W' =>
      (e = .returned (.bool true) ∧ J (pre ++ [x]) O W' ∧ KeepsO O W1 W') ∨ (e = .returned (.bool false) ∧ Jx (pre ++ [x]) O W'))
    {p : List Int} {k n0 : Int} {s : ByteArray} {c : List Tr} (hpre : (pre ++ walkL p (.mk k n0 s c)) <+: L) {O1 : Nat → Prop} {B w2 w3 : World} {vpc vnc : Value} (hlt : ∀ b, O1 b → b < B.heap.size) (hbB : base ≤ B.heap.size) (hj : J pre O1 B)
    (hb3 : Below B.heap.size B w3) (hic : IntsAt w2 (fun b => B.drew.heap.size ≤ b ∧ b < w2.heap.size) vpc p) (hb23 : Below w2.heap.size w2 w3) (_hb2 : Below B.heap.size B w2)
    (hrc : RepP w3 (fun b => w2.heap.size ≤ b ∧ b < w3.heap.size) (.mk k n0 s c) vnc) (m : Nat) :
    YieldAt .wide m Try.prog l #[vpc, vnc] w3 fun e W' => ∃ bb : Bool, e = .returned (.bool bb) ∧ ((bb = true ∧ J (pre ++ [(p, .mk k n0 s c)]) O1 W' ∧ KeepsO O1 B W') ∨ (bb = false ∧ Jx (pre ++ [(p, .mk k n0 s c)]) O1 W')) := by
  have hj3 := hJ _ _ _ _ _ hj (Moves.keep (X := fun b => B.heap.size ≤ b ∧ b < w3.heap.size) hb3 hlt (fun b hb => hb) hbB)
  have hargs : walkArgs (p, .mk k n0 s c) (fun b => B.heap.size ≤ b ∧ b < w3.heap.size) w3 #[vpc, vnc] := by
    refine ⟨fun b hb => hb.2, vpc, vnc, rfl, ?_, RepP.keep (fun b hb => ⟨by have h2 := _hb2.size; omega, hb.2⟩) (fun _ _ _ => rfl) _ hrc⟩
    exact hic.keep (fun b hb => ⟨hb.1, Nat.lt_of_lt_of_le hb.2 hb23.size⟩) (fun b o hb => hb23.cell (p := ⟨b, o, none⟩) hb.2)
  refine YieldAt.mono (hY m _ _ _ _ _ _ (visit_prefix hpre) hj3 (fun b hb => ⟨by have := hb.1; omega, fun e => by have h1 := hlt b e; have h2 := hb.1; omega⟩) hargs) fun e W' h => ?_
  rcases h with ⟨he, hj', hk⟩ | ⟨he, hx⟩
  · exact ⟨true, he, .inl ⟨rfl, hj', (KeepsO.of_below hb3 hlt).trans hk⟩⟩
  · exact ⟨false, he, .inr ⟨rfl, hx⟩⟩

/-- a kid of the row, cell by cell -/
theorem RowP.kid {w : World} {ok : Nat → Prop} {c : List Tr} {A : Option Addr} (h : RowP w ok c A 0) (j : Nat) (hj : j < c.length) :
    ∃ (b off : Nat) (A' : Option Addr) (cap' : Nat), A = some ⟨b, off, none⟩ ∧ ok b ∧ w.cell? ⟨b, off + j * 4, none⟩ = some (.int .u8 c[j].kind) ∧ w.cell? ⟨b, off + j * 4 + 1, none⟩ = some (.int .i64 c[j].num) ∧
      w.cell? ⟨b, off + j * 4 + 2, none⟩ = some (.string c[j].name) ∧ w.cell? ⟨b, off + j * 4 + 3, none⟩ = some (.slice A' c[j].kids.length cap') ∧
      RepP w ok c[j] (nodeV c[j].kind c[j].num c[j].name A' c[j].kids.length cap') := by
  obtain ⟨b, off, c0, c1, c2, c3, hA, hb, h0, h1, h2, h3, hr⟩ := rowP_at h j hj
  simp only [Nat.zero_add] at h0 h1 h2 h3
  obtain ⟨A', cap', hv, _, _⟩ := nodeOf hr
  have hv' := hv
  simp only [nodeV, Value.agg.injEq, Array.mk.injEq, List.cons.injEq, and_true] at hv'
  obtain ⟨rfl, rfl, rfl, rfl⟩ := hv'
  exact ⟨b, off, A', cap', hA, hb, h0, h1, h2, h3, hr⟩

theorem visit_prefix2 {L pre : List (List Int × Tr)} {p : List Int} {k n0 : Int} {s : ByteArray} {c : List Tr} {i : Nat} (h : (pre ++ walkL p (.mk k n0 s c)) <+: L) (hi : i < c.length) :
    (pre ++ [(p, .mk k n0 s c)] ++ walksL p 0 (c.take i) ++ walkL (p ++ [(i : Int)]) c[i]) <+: L := by
  obtain ⟨r, hr⟩ := walksL_take_prefix p c (i + 1)
  rw [walksL_take p c i hi] at hr
  refine List.IsPrefix.trans ⟨r, ?_⟩ h
  simp only [walkL, ← hr, List.append_assoc, List.cons_append, List.nil_append]

end Go.Proofs.Ytjikokmhknnnoaa

/- Walk: the iterator, and the function that hands it out. -/
namespace Go.Proofs.Ytjikokmhknnnoaa
open Go.RowKit Go.Shelf
attribute [local go_sem] Oper.semAt_some

theorem heap3 (w : World) (A B C : Obj) : (((w.alloc A).alloc B).alloc C).heap[w.heap.size]? = some A ∧ (((w.alloc A).alloc B).alloc C).heap[w.heap.size + 1]? = some B ∧ (((w.alloc A).alloc B).alloc C).heap[w.heap.size + 2]? = some C := by
  refine ⟨?_, ?_, ?_⟩
  · rw [Below.heap_alloc _ _ _ (by simp only [World.size_alloc]; omega)]; exact heap_alloc2_old w A B
  · rw [Below.heap_alloc _ _ _ (by simp only [World.size_alloc]; omega)]; exact heap_alloc2_new w A B
  · have := heap_alloc_new ((w.alloc A).alloc B) C; simpa using this

end Go.Proofs.Ytjikokmhknnnoaa
