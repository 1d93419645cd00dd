/- Valid expressions: the walk of the reference. -/
import Derived.Test.YtmglacjcefajlaaKinds
import Derived.Test.YtmglacjcefajlaaBB
import Derived.Test.YtmglacjcefajlaaKinds2
import Derived.Test.YtmglacjcefajlaaBA
import Derived.Test.YtmglacjcefajlaaBJ
import Derived.Test.YtmglacjcefajlaaPred
import Derived.Test.YtmglacjcefajlaaClone
import Derived.WalkSpells
import Derived.Lib.SliceRun
import Derived.Test.YtmglacjcefajlaaIter
import Derived.Maps.OwnIn
import Derived.OwnWalkIn
import Derived.TacticsInMore
import Derived.LoopNIn
import Derived.LoopIn
import Derived.Shelf.RegionOpen
import Derived.Outline
import Derived.Laws.EntriesVeiled
import Derived.Test.YtmglacjcefajlaaBK
namespace Go.Proofs.Ytmglacjcefajlaa
open Go.RowKit Go.Shelf
end Go.Proofs.Ytmglacjcefajlaa

/- Valid statements and blocks: the walks of the reference. -/
namespace Go.Proofs.Ytmglacjcefajlaa
open Go.RowKit Go.Shelf
end Go.Proofs.Ytmglacjcefajlaa

/- Valid statements and blocks: the walks of the reference, the statement itself. -/
namespace Go.Proofs.Ytmglacjcefajlaa
open Go.RowKit Go.Shelf
end Go.Proofs.Ytmglacjcefajlaa

/- Valid statements: the walk of the reference, its loop. -/
namespace Go.Proofs.Ytmglacjcefajlaa
open Go.RowKit Go.Shelf
end Go.Proofs.Ytmglacjcefajlaa

/- Valid statements and blocks of the reference, together. -/
namespace Go.Proofs.Ytmglacjcefajlaa
open Go.RowKit Go.Shelf
end Go.Proofs.Ytmglacjcefajlaa

/- count, Big, Size, Depth. -/
namespace Go.Proofs.Ytmglacjcefajlaa
open Go.RowKit Go.Shelf

mutual
def cnt : Tr → Nat → Int
 | .mk _ _ _ c, d => if d = 0 then -1 else cntL c (d - 1) 1
def cntL : List Tr → Nat → Int → Int
 | [], _, s => s
 | t :: r, d, s => if cnt t d < 0 ∨ 1000 < s then -1 else cntL r d (s + cnt t d)
end

def bigB (t : Tr) : Bool := decide (cnt t 100 < 0) || decide (400 < cnt t 100)
end Go.Proofs.Ytmglacjcefajlaa

/- The equality of trees: ast.Equal, slices.EqualFunc over nodes, the reference's Equal. -/
namespace Go.Proofs.Ytmglacjcefajlaa
open Go.RowKit Go.Shelf
end Go.Proofs.Ytmglacjcefajlaa

/- An act behind a region: the act ahead, but for the region's slots. -/
namespace Go.Proofs.Ytmglacjcefajlaa
end Go.Proofs.Ytmglacjcefajlaa

/- The reference's equality of trees. -/
namespace Go.Proofs.Ytmglacjcefajlaa
open Go.RowKit Go.Shelf
end Go.Proofs.Ytmglacjcefajlaa

/- Slices of ints: read, cloned. -/
namespace Go.Proofs.Ytmglacjcefajlaa
open Go.RowKit Go.Shelf

/-- the slice value v reads as the ints p; its cells lie in a block that is ok -/
def IntsAt (w : World) (ok : Nat → Prop) (v : Value) (p : List Int) : Prop :=
 ∃ (A : Option Addr) (cap : Nat), v = .slice A p.length cap ∧ p.length ≤ cap ∧ cap ≤ 9223372036854775807 ∧ (A = none → cap = 0) ∧
  ∀ (j : Nat) (h : j < p.length), ∃ b off, A = some ⟨b, off, none⟩ ∧ ok b ∧ w.cell? ⟨b, off + j, none⟩ = some (.int .i64 p[j])

theorem IntsAt.keep {w w' : World} {ok ok' : Nat → Prop} {v : Value} {p : List Int} (h : IntsAt w ok v p) (hB : ∀ b, ok b → ok' b) (hk : ∀ b o, ok b → w'.cell? ⟨b, o, none⟩ = w.cell? ⟨b, o, none⟩) : IntsAt w' ok' v p := by
 obtain ⟨A, cap, hv, h1, h2, hn, hc⟩ := h
 refine ⟨A, cap, hv, h1, h2, hn, fun j hj => ?_⟩
 obtain ⟨b, off, hA, hb, hcell⟩ := hc j hj
 exact ⟨b, off, hA, hB b hb, by rw [hk b _ hb]; exact hcell⟩
theorem IntsAt.nil (w : World) (ok : Nat → Prop) : IntsAt w ok (.slice none 0 0) [] := ⟨none, 0, rfl, Nat.le_refl _, by omega, fun _ => rfl, fun j h => absurd h (Nat.not_lt_zero _)⟩
theorem IntsAt.weak {w : World} {ok ok' : Nat → Prop} {v : Value} {p : List Int} (h : IntsAt w ok v p) (hB : ∀ b, ok b → ok' b) : IntsAt w ok' v p := h.keep hB (fun _ _ _ => rfl)
theorem IntsAt.below {w w' : World} {v : Value} {p : List Int} (h : IntsAt w (fun b => b < w.heap.size) v p) (hb : Below w.heap.size w w') : IntsAt w' (fun b => b < w'.heap.size) v p :=
 h.keep (fun _ hb' => Nat.lt_of_lt_of_le hb' hb.size) (fun b o hb' => hb.cell (p := ⟨b, o, none⟩) hb')

/-- a row of ints of the call's own -/
theorem IntsAt.of_own {w : World} {base : Nat} {e : TypeId} {v : Value} {p : List Int} (h : w.ownsRow base e 1 v p.length (p.map (Value.int .i64))) : IntsAt w (fun b => v.ownBlock = some b ∧ base ≤ b ∧ b < w.heap.size) v p := by
 rcases h.2 with ⟨rfl, h0⟩ | ⟨g, cap, cur, rfl, hb, hg, hnc, hcm, hcs, htake⟩
 ·have : p = [] := List.eq_nil_of_length_eq_zero h0
  subst this
  exact IntsAt.nil _ _
 ·have hlt := (Array.getElem?_eq_some_iff.1 hg).1
  refine ⟨some ⟨g, 0, none⟩, cap, rfl, hnc, by simpa [maxLen] using hcm, (fun e => by cases e), fun j hj => ⟨g, 0, rfl, ⟨rfl, hb, hlt⟩, ?_⟩⟩
  have := h.cells (g := g) rfl j (.int .i64 p[j]) (by simp [hj])
  have hadd : (⟨g, 0, none⟩ : Addr).add j = ⟨g, j, none⟩ := by unfold Addr.add; split <;> simp_all
  rw [hadd] at this
  simpa using this

theorem infoInt : (Try.prog.info? 3).map (fun i => (i.zero, i.size, i.bytes)) = some (some (.int .i64 0), 1, 8) := by kernel_rfl
theorem undInts : Try.prog.underlying 40 = some (.slice 3) := by kernel_rfl

def MakesInts (p : List Int) (w : World) (e : Ending) (w' : World) : Prop :=
 ∃ v', e = .returned v' ∧ IntsAt w' (fun b => w.heap.size ≤ b ∧ b < w'.heap.size) v' p ∧ Below w.heap.size w w'

set_option maxHeartbeats 400000 in
theorem sclone_any (v : Value) (p : List Int) (w : World) (h : IntsAt w (fun b => b < w.heap.size) v p) (hp : p.length ≤ 1000000) : Calls Try.prog 34 #[v] w (MakesInts p w) := by
 obtain ⟨A, cap, rfl, h1, h2, hn, hc⟩ := h
 have HC := Lib.hid hc
 clear hc
 have hnil := fun (W : World) (a : Option Addr) (n c : Nat) => Lib.run_eql_slice_nil (P := Try.prog) W _ _ a n c 0 0 undInts
 cases A with
 | none =>
  have hp0 : p = [] := by
   cases p with
   | nil => rfl
   | cons x r => obtain ⟨b, off, e, _⟩ := HC.out 0 (by simp); cases e
  subst hp0
  go_enter Try.func34, Try.ntmps34
  go_wp2_with fail
  go_ret
  exact ⟨_, rfl, IntsAt.nil _ _, Below.refl _ _⟩
 | some ad =>
  obtain ⟨i0, hi0, hz0, hz1, hz2⟩ := info_parts infoInt
  have hown : (w.alloc (.cells #[] 3)).ownsRow w.heap.size 3 1 (.slice (some ⟨w.heap.size, 0, none⟩) 0 0) 0 [] := World.ownsRow_made w #[] 0 (Nat.le_refl _) (by simp [maxLen]) rfl
  have hnews : ∀ j u, (p.map (Value.int .i64))[j]? = some u → (w.alloc (.cells #[] 3)).cell? (ad.add j) = some u := by
   intro j u hu
   rw [List.getElem?_map] at hu
   have hj : j < p.length := by
    rcases Nat.lt_or_ge j p.length with hlt | hge
    ·exact hlt
    ·rw [List.getElem?_eq_none hge] at hu; cases hu
   obtain ⟨b, off, e, hb, hcell⟩ := HC.out j hj
   cases e
   rw [List.getElem?_eq_getElem hj] at hu
   cases hu
   have hadd : (⟨b, off, none⟩ : Addr).add j = ⟨b, off + j, none⟩ := by unfold Addr.add; split <;> simp_all
   rw [hadd]
   exact (World.cell?_alloc_lt w _ ⟨b, off + j, none⟩ hb).trans hcell
  have HN := Lib.hid hnews
  have HO := Lib.hid hown
  clear hnews hown
  go_enter Try.func34, Try.ntmps34
  go_wp2_with (at_builtin; (refine wpList_append_own_at _ rfl (.tmp 5) (.tmp 6) _ rfl w.heap.size 3 i0 _ 1 8 undInts hi0 hz0 hz1 hz2 rfl (by omega) _ 0 [] rfl HO.out ad p.length cap (p.map (Value.int .i64)) rfl (by simp) HN.out (by intro u hu; obtain ⟨x, _, rfl⟩ := List.mem_map.1 hu; rfl) (by simp only [maxLen]; omega) (by omega) (by simp) ?_); intro v2 w2 hO2 hg2 _ _)
  go_ret
  have hb2 : Below w.heap.size w w2 := ((Below.refl _ w).alloc (Nat.le_refl _) _).grown hg2 (by simp) (fun k e => by cases e; exact Nat.le_refl _)
  simp only [Nat.zero_add, List.nil_append] at hO2
  exact ⟨_, rfl, (IntsAt.of_own hO2).weak fun b hb => hb.2, hb2⟩

end Go.Proofs.Ytmglacjcefajlaa

/- Walk: the state of the iterator, and what its steps do to it. -/
namespace Go.Proofs.Ytmglacjcefajlaa
open Go.RowKit Go.Shelf

mutual
/-- the nodes of a tree in pre-order, each with its path -/
def walkL : List Int → Tr → List (List Int × Tr)
 | p, .mk k n s c => (p, .mk k n s c) :: walksL p 0 c
def walksL : List Int → Nat → List Tr → List (List Int × Tr)
 | _, _, [] => []
 | p, i, t :: r => walkL (p ++ [(i : Int)]) t ++ walksL p (i + 1) r
end

theorem walksL_append (p : List Int) : ∀ (a b : List Tr) (i : Nat), walksL p i (a ++ b) = walksL p i a ++ walksL p (i + a.length) b
 | [], b, i => by simp [walksL]
 | t :: r, b, i => by
  simp only [List.cons_append, walksL, walksL_append p r b (i + 1), List.length_cons, List.append_assoc]
  rw [show i + 1 + r.length = i + (r.length + 1) from by omega]
theorem walksL_take (p : List Int) (c : List Tr) (i : Nat) (h : i < c.length) : walksL p 0 (c.take (i + 1)) = walksL p 0 (c.take i) ++ walkL (p ++ [(i : Int)]) c[i] := by
 rw [Tr.take_snoc c i h, walksL_append]
 simp only [walksL, List.append_nil, List.length_take, Nat.zero_add]
 rw [Nat.min_eq_left (by omega)]
theorem walksL_take_prefix (p : List Int) (c : List Tr) (i : Nat) : walksL p 0 (c.take i) <+: walksL p 0 c := by
 have h := walksL_append p (c.take i) (c.drop i) 0
 rw [List.take_append_drop] at h
 exact ⟨_, h.symm⟩

/-- the block of the path's own array -/
def pathOwn (W : World) (bp : Nat) : Option Nat :=
 match W.heap[bp]? with
 | some (.cells c _ _) => (c[0]?).bind Value.ownBlock
 | _ => none

theorem pathOwn_of {W : World} {bp : Nat} {v : Value} {t : TypeId} (h : W.heap[bp]? = some (.cells #[v] t (0, 0))) : pathOwn W bp = v.ownBlock := by
 simp [pathOwn, h]

/-- the iterator's state at a node: the three boxes, the path -/
structure It (by_ bp bv l base : Nat) (O : Nat → Prop) (p : List Int) (W : World) : Prop where
 hy : W.heap[by_]? = some (.cells #[.func (.yield l) #[] #[]] 87 (0, 0))
 hv : W.heap[bv]? = some (.cells #[.func (.func 64) #[] #[.pointer (some ⟨by_, 0, none⟩), .pointer (some ⟨bp, 0, none⟩), .pointer (some ⟨bv, 0, none⟩)]] 51 (0, 0))
 hp : ∃ vp, W.heap[bp]? = some (.cells #[vp] 40 (0, 0)) ∧ W.ownsRow base 3 1 vp p.length (p.map (Value.int .i64)) ∧ (∀ g, vp.ownBlock = some g → O g)
 oy : O by_
 op : O bp
 ov : O bv
 lt : ∀ b, O b → b < W.heap.size
 by0 : base ≤ by_
 bp0 : base ≤ bp
 bv0 : base ≤ bv

/-- what a visit leaves -/
structure Step (bp : Nat) (O O' : Nat → Prop) (W W' : World) : Prop where
 size : W.heap.size ≤ W'.heap.size
 sub : ∀ b, O b → O' b
 same : ∀ b, O b → b ≠ bp → pathOwn W bp ≠ some b → W'.heap[b]? = W.heap[b]?
 own : ∀ g, pathOwn W' bp = some g → pathOwn W bp = some g ∨ W.heap.size ≤ g

theorem Step.refl (bp : Nat) (O : Nat → Prop) (W : World) : Step bp O O W W := ⟨Nat.le_refl _, fun _ h => h, fun _ _ _ _ => rfl, fun _ h => .inl h⟩
theorem Step.trans {bp : Nat} {O O' O'' : Nat → Prop} {A B C : World} (h : Step bp O O' A B) (k : Step bp O' O'' B C) (hlt : ∀ b, O b → b < A.heap.size) : Step bp O O'' A C :=
 ⟨Nat.le_trans h.size k.size, fun b hb => k.sub b (h.sub b hb), fun b hb hne ho => by
  rw [k.same b (h.sub b hb) hne (fun e => (h.own b e).elim ho (fun e => by have := hlt b hb; omega)), h.same b hb hne ho], fun g hg => by
  rcases k.own g hg with e | e
  ·exact h.own g e
  ·exact .inr (Nat.le_trans h.size e)⟩
/-- a round keeps all -/
theorem Step.of_keeps {bp : Nat} {O : Nat → Prop} {A B : World} (h : KeepsO O A B) (hbp : O bp) : Step bp O O A B :=
 ⟨h.size, fun _ h => h, fun b hb _ _ => h.block b hb, fun g hg => .inl (by unfold pathOwn at hg ⊢; rwa [h.block bp hbp] at hg)⟩

section
variable {by_ bp bv l base : Nat} {O : Nat → Prop} {p : List Int} {W W' : World}
theorem It.keeps (h : It by_ bp bv l base O p W) (k : KeepsO O W W') : It by_ bp bv l base O p W' := by
 obtain ⟨vp, hb, ho, hg⟩ := h.hp
 refine ⟨(k.block _ h.oy).trans h.hy, (k.block _ h.ov).trans h.hv, ⟨vp, (k.block _ h.op).trans hb, ?_, hg⟩, h.oy, h.op, h.ov, k.lt h.lt, h.by0, h.bp0, h.bv0⟩
 refine ⟨ho.1, ?_⟩
 rcases ho.2 with h0 | ⟨g, cap, cur, hv, hbg, hgg, r⟩
 ·exact .inl h0
 ·exact .inr ⟨g, cap, cur, hv, hbg, (k.block g (hg g (by rw [hv]; rfl))).trans hgg, r⟩
theorem It.more (h : It by_ bp bv l base O p W) {O' : Nat → Prop} (hs : ∀ b, O b → O' b) (hl : ∀ b, O' b → b < W.heap.size) : It by_ bp bv l base O' p W := by
 obtain ⟨vp, hb, ho, hg⟩ := h.hp
 exact ⟨h.hy, h.hv, ⟨vp, hb, ho, fun g e => hs g (hg g e)⟩, hs _ h.oy, hs _ h.op, hs _ h.ov, hl, h.by0, h.bp0, h.bv0⟩
end

/-- what a round is handed -/
def walkArgs (x : List Int × Tr) (X : Nat → Prop) (W : World) (args : Array Value) : Prop :=
 (∀ b, X b → b < W.heap.size) ∧
 ∃ vp vn, args = #[vp, vn] ∧ IntsAt W X vp x.1 ∧ RepP W X x.2 vn

end Go.Proofs.Ytmglacjcefajlaa

/- Walk: a number pushed onto the path, and taken off again. -/
namespace Go.Proofs.Ytmglacjcefajlaa
open Go.RowKit Go.Shelf

theorem ownsRow_kept' {w w' : World} {base : Nat} {e : TypeId} {size : Nat} {v : Value} {n : Nat} {xs : List Value} (h : w.ownsRow base e size v n xs) (hk : ∀ g, v.ownBlock = some g → w'.heap[g]? = w.heap[g]?) : w'.ownsRow base e size v n xs := by
 refine ⟨h.1, ?_⟩
 rcases h.2 with h0 | ⟨g, cap, cur, hv, hbg, hgg, r⟩
 ·exact .inl h0
 ·exact .inr ⟨g, cap, cur, hv, hbg, (hk g (by rw [hv]; rfl)).trans hgg, r⟩

section
variable {by_ bp bv l base : Nat} {O : Nat → Prop} {p : List Int} {W : World}

/-- the path's own array is none of the three boxes, nor a block that is not ints -/
theorem own_ne {W : World} {base : Nat} {vp : Value} {n : Nat} {xs : List Value} {b : Nat} {cs : Array Value} {t : TypeId} (h : W.ownsRow base 3 1 vp n xs) (hb : W.heap[b]? = some (.cells cs t (0, 0))) (ht : t ≠ 3) : vp.ownBlock ≠ some b := by
 rcases h.2 with ⟨rfl, _⟩ | ⟨g, cap, cur, rfl, _, hg, _⟩
 ·simp [Value.ownBlock]
 ·intro e
  have : g = b := by simpa [Value.ownBlock] using e
  subst this
  rw [hg] at hb
  cases hb
  exact ht rfl

theorem push_it (h : It by_ bp bv l base O p W) {vp : Value} (hbx : W.heap[bp]? = some (.cells #[vp] 40 (0, 0))) (hown : W.ownsRow base 3 1 vp p.length (p.map (Value.int .i64))) (hog : ∀ g, vp.ownBlock = some g → O g)
  {X : Obj} {i : Nat} {v' : Value} {w' : World} (hown' : w'.ownsRow base 3 1 v' (p.length + 1) (p.map (Value.int .i64) ++ [.int .i64 i]))
  (hg : ((W.alloc X).alloc (.cells #[.int .i64 i] 3)).grownBy w' vp.ownBlock) (hat : v'.ownBlock = vp.ownBlock ∨ v'.ownBlock = some (W.heap.size + 2)) (hw' : W.heap.size + 2 ≤ w'.heap.size) :
  It by_ bp bv l base (fun b => O b ∨ v'.ownBlock = some b) (p ++ [(i : Int)]) (w'.setCell ⟨bp, 0, none⟩ v') ∧ Moves base O (fun b => O b ∨ v'.ownBlock = some b) W (w'.setCell ⟨bp, 0, none⟩ v') ∧
  Step bp O (fun b => O b ∨ v'.ownBlock = some b) W (w'.setCell ⟨bp, 0, none⟩ v') ∧ (∀ b, b < W.heap.size → b ≠ bp → vp.ownBlock ≠ some b → (w'.setCell ⟨bp, 0, none⟩ v').heap[b]? = W.heap[b]?) ∧
  w'.heap[bp]? = some (.cells #[vp] 40 (0, 0)) ∧ (w'.setCell ⟨bp, 0, none⟩ v').heap[W.heap.size]? = some X := by
 have hlt := h.lt
 have hb1 : ∀ b, b < W.heap.size → ((W.alloc X).alloc (.cells #[.int .i64 i] 3)).heap[b]? = W.heap[b]? := fun b hb => by
  rw [Below.heap_alloc _ _ _ (by simp; omega), Below.heap_alloc _ _ _ hb]
 have hw : ∀ b, b < W.heap.size → vp.ownBlock ≠ some b → w'.heap[b]? = W.heap[b]? := fun b hb hne => by
  rw [hg.block b (by simp; omega) (fun e => hne e.symm), hb1 b hb]
 have hvlt : ∀ g, vp.ownBlock = some g → g < W.heap.size := fun g e => hlt g (hog g e)
 have hbx' : w'.heap[bp]? = some (.cells #[vp] 40 (0, 0)) := (hw bp (hlt _ h.op) (own_ne hown hbx (by decide))).trans hbx
 have hbx2 : (w'.setCell ⟨bp, 0, none⟩ v').heap[bp]? = some (.cells #[v'] 40 (0, 0)) := heap_setCell_same w' bp 0 #[vp] _ v' hbx'
 have hX : ((W.alloc X).alloc (.cells #[.int .i64 i] 3)).heap[W.heap.size]? = some X := heap_alloc2_old W X _
 have hX2 : w'.heap[W.heap.size]? = some X := by
  rw [hg.block _ (by simp only [World.size_alloc]; omega) (fun e => by have := hvlt _ e.symm; omega)]; exact hX
 have hv'ne : v'.ownBlock ≠ some bp := own_ne hown' hbx' (by decide)
 have hother : ∀ b, b ≠ bp → (w'.setCell ⟨bp, 0, none⟩ v').heap[b]? = w'.heap[b]? := fun b hb => heap_setCell_other w' _ b v' hb
 have hfin : ∀ b, b < W.heap.size → b ≠ bp → vp.ownBlock ≠ some b → (w'.setCell ⟨bp, 0, none⟩ v').heap[b]? = W.heap[b]? := fun b hb hne ho => (hother b hne).trans (hw b hb ho)
 have hv'lt := hown'.lt
 have hyb : by_ ≠ bp := fun e => by have h1 := h.hy; rw [e, hbx] at h1; cases h1
 have hvb : bv ≠ bp := fun e => by have h1 := h.hv; rw [e, hbx] at h1; cases h1
 have hsz : (w'.setCell ⟨bp, 0, none⟩ v').heap.size = w'.heap.size := by simp [World.setCell]
 have hlt2 : ∀ b, (O b ∨ v'.ownBlock = some b) → b < (w'.setCell ⟨bp, 0, none⟩ v').heap.size := fun b hb => by
  rw [hsz]
  rcases hb with hb | hb
  ·have := hlt b hb; omega
  ·exact (hv'lt b hb).2
 have hnew : ∀ b, (O b ∨ v'.ownBlock = some b) → O b ∨ W.heap.size ≤ b := fun b hb => by
  rcases hb with hb | hb
  ·exact .inl hb
  ·rcases hat with e | e
   ·exact .inl (hog b (e ▸ hb))
   ·rw [e] at hb; cases hb; exact .inr (by omega)
 refine ⟨⟨(hfin _ (hlt _ h.oy) hyb (own_ne hown h.hy (by decide))).trans h.hy, (hfin _ (hlt _ h.ov) hvb (own_ne hown h.hv (by decide))).trans h.hv, ⟨v', hbx2, ?_, fun g e => .inr e⟩, .inl h.oy, .inl h.op, .inl h.ov, hlt2, h.by0, h.bp0, h.bv0⟩,
  ⟨hg.os, hg.tape, hg.output, by rw [hsz]; omega, fun b hb => .inl hb, hnew, hlt2, fun b hb hn => ?_, fun b hb => hfin b (by have h1 := h.by0; have h2 := hlt _ h.oy; omega) (by have := h.bp0; omega) (fun e => by have := (hown.lt b e).1; omega)⟩, ⟨by rw [hsz]; omega, fun b hb => .inl hb, fun b hb hne ho => hfin b (hlt b hb) hne (by rwa [pathOwn_of hbx] at ho), fun g hg' => ?_⟩, hfin, hbx', (hother _ (fun e => by have := hlt _ h.op; omega)).trans hX2⟩
 ·have := ownsRow_kept' (w' := w'.setCell ⟨bp, 0, none⟩ v') hown' (fun g e => hother g (fun e' => hv'ne (e' ▸ e)))
  simpa using this
 ·have hne : b ≠ bp := fun e => hn (.inl (e ▸ h.op))
  exact hfin b hb hne (fun e => hn (.inl (hog b e)))
 ·rw [pathOwn_of hbx2] at hg'
  rw [pathOwn_of hbx]
  rcases hat with e | e
  ·exact .inl (e ▸ hg')
  ·rw [e] at hg'; cases hg'; exact .inr (by omega)

theorem pop_it {i : Nat} (h : It by_ bp bv l base O (p ++ [(i : Int)]) W) {g cap : Nat} (hbx : W.heap[bp]? = some (.cells #[.slice (some ⟨g, 0, none⟩) (p.length + 1) cap] 40 (0, 0)))
  (hown : W.ownsRow base 3 1 (.slice (some ⟨g, 0, none⟩) (p.length + 1) cap) (p.length + 1) (p.map (Value.int .i64) ++ [.int .i64 i])) (hog : O g) :
  It by_ bp bv l base O p (W.setCell ⟨bp, 0, none⟩ (.slice (some ⟨g, 0, none⟩) p.length cap)) ∧ Moves base O O W (W.setCell ⟨bp, 0, none⟩ (.slice (some ⟨g, 0, none⟩) p.length cap)) ∧
  Step bp O O W (W.setCell ⟨bp, 0, none⟩ (.slice (some ⟨g, 0, none⟩) p.length cap)) := by
 have hlt := h.lt
 have hbx2 : (W.setCell ⟨bp, 0, none⟩ (.slice (some ⟨g, 0, none⟩) p.length cap)).heap[bp]? = some (.cells #[.slice (some ⟨g, 0, none⟩) p.length cap] 40 (0, 0)) := heap_setCell_same W bp 0 _ _ _ hbx
 have hother : ∀ b, b ≠ bp → (W.setCell ⟨bp, 0, none⟩ (.slice (some ⟨g, 0, none⟩) p.length cap)).heap[b]? = W.heap[b]? := fun b hb => heap_setCell_other W _ b _ hb
 have hyb : by_ ≠ bp := fun e => by have h1 := h.hy; rw [e, hbx] at h1; cases h1
 have hvb : bv ≠ bp := fun e => by have h1 := h.hv; rw [e, hbx] at h1; cases h1
 have hgb : g ≠ bp := fun e => own_ne hown hbx (by decide) (by rw [← e]; rfl)
 have hm := Moves.setCell (Z := base) hlt (p := ⟨bp, 0, none⟩) h.op (.slice (some ⟨g, 0, none⟩) p.length cap) h.bp0
 refine ⟨⟨(hother _ hyb).trans h.hy, (hother _ hvb).trans h.hv, ⟨_, hbx2, ?_, fun g' e => by cases e; exact hog⟩, h.oy, h.op, h.ov, hm.lt, h.by0, h.bp0, h.bv0⟩, hm, ⟨hm.size, fun _ h => h, fun b _ hne _ => hother b hne, fun g' hg' => .inl ?_⟩⟩
 ·exact ownsRow_kept' (ownsRow_pop (by simp) hown) (fun g' e => by cases e; exact hother g hgb)
 ·rw [pathOwn_of hbx2] at hg'
  rw [pathOwn_of hbx]
  exact hg'
end

end Go.Proofs.Ytmglacjcefajlaa

/- Walk: the visit of one node, by induction on the tree. -/
namespace Go.Proofs.Ytmglacjcefajlaa
open Go.RowKit Go.Shelf
attribute [local go_sem] Oper.semAt_some

/-- what holds when the node's box has been laid -/
theorem visit_pre {by_ bp bv l base : Nat} {R O : Nat → Prop} {J : List (List Int × Tr) → (Nat → Prop) → World → Prop} (hJ : Abides base J) {p : List Int} {pre : List (List Int × Tr)} {W : World} {k n0 : Int} {s : ByteArray} {c : List Tr} {A : Option Addr} {cap : Nat}
  (hrow : RowP W R c A 0) (hf : Fits k n0 s c.length cap) (hRO : ∀ b, R b → O b) (hit : It by_ bp bv l base O p W) (hj : J pre O W) :
  ∃ (O1 : Nat → Prop) (vp : Value), (∀ b, O b → O1 b) ∧ O1 W.heap.size ∧ It by_ bp bv l base O1 p (W.alloc (.cells #[.int .u8 k, .int .i64 n0, .string s, .slice A c.length cap] 26)) ∧ J pre O1 (W.alloc (.cells #[.int .u8 k, .int .i64 n0, .string s, .slice A c.length cap] 26)) ∧ (W.alloc (.cells #[.int .u8 k, .int .i64 n0, .string s, .slice A c.length cap] 26)).heap[bp]? = some (.cells #[vp] 40 (0, 0)) ∧
   IntsAt (W.alloc (.cells #[.int .u8 k, .int .i64 n0, .string s, .slice A c.length cap] 26)) (fun b => b < (W.alloc (.cells #[.int .u8 k, .int .i64 n0, .string s, .slice A c.length cap] 26)).heap.size) vp p ∧ Rep (W.alloc (.cells #[.int .u8 k, .int .i64 n0, .string s, .slice A c.length cap] 26)) (W.alloc (.cells #[.int .u8 k, .int .i64 n0, .string s, .slice A c.length cap] 26)).heap.size (.mk k n0 s c) (nodeV k n0 s A c.length cap) ∧ RowP (W.alloc (.cells #[.int .u8 k, .int .i64 n0, .string s, .slice A c.length cap] 26)) R c A 0 ∧ pathOwn (W.alloc (.cells #[.int .u8 k, .int .i64 n0, .string s, .slice A c.length cap] 26)) bp = pathOwn W bp := by
 obtain ⟨vp, hbx, hown, hog⟩ := hit.hp
 have hlt := hit.lt
 have hb1 : Below W.heap.size W (W.alloc (.cells #[.int .u8 k, .int .i64 n0, .string s, .slice A c.length cap] 26)) := (Below.refl _ W).alloc (Nat.le_refl _) _
 have hk1 := KeepsO.of_below hb1 hlt
 have hbx1 : (W.alloc (.cells #[.int .u8 k, .int .i64 n0, .string s, .slice A c.length cap] 26)).heap[bp]? = some (.cells #[vp] 40 (0, 0)) := (hk1.block _ hit.op).trans hbx
 have hmv := Moves.keep (Z := base) (X := fun b => b = W.heap.size) hb1 hlt (fun b hb => by subst hb; simp) (by have h1 := hit.by0; have h2 := hlt _ hit.oy; omega)
 have h0 : RepP W R (.mk k n0 s c) (nodeV k n0 s A c.length cap) := by simp only [RepP]; exact ⟨A, cap, rfl, hf, hrow⟩
 refine ⟨fun b => O b ∨ b = W.heap.size, vp, fun b hb => .inl hb, .inr rfl, (hit.keeps hk1).more (fun b hb => .inl hb) hmv.lt, hJ _ _ _ _ _ hj hmv, hbx1,
  ((IntsAt.of_own hown).weak (fun b hb => hb.2.2)).below hb1, (h0.lt (fun b hb => hlt b (hRO b hb))).alloc (Nat.le_refl _) _, RowP.keep (fun _ h => h) (fun b o hb => hb1.cell (p := ⟨b, o, none⟩) (hlt b (hRO b hb))) c hrow, ?_⟩
 rw [pathOwn_of hbx1, pathOwn_of hbx]

theorem visit_prefix {L pre : List (List Int × Tr)} {p : List Int} {k n0 : Int} {s : ByteArray} {c : List Tr} (h : (pre ++ walkL p (.mk k n0 s c)) <+: L) : (pre ++ [(p, .mk k n0 s c)]) <+: L := by
 refine List.IsPrefix.trans ⟨walksL p 0 c, ?_⟩ h
 simp [walkL]
theorem Below.undrew {B : Nat} {a w : World} (h : Below B a.drew w) : Below B a w := ⟨h.os, h.tape, h.output, h.size, h.block⟩
/-- the round at this node -/
theorem visit_yield {l base base0 : Nat} (hb0 : base0 ≤ base) {L pre : List (List Int × Tr)} {J Jx : List (List Int × Tr) → (Nat → Prop) → World → Prop} (hJ : Abides base J)
  (hY : ∀ m pre x O X args W1, (pre ++ [x]) <+: L → J pre (fun b => O b ∨ X b) W1 → (∀ b, X b → base0 ≤ b ∧ ¬ O b) → walkArgs x X W1 args → YieldAt .wide m Try.prog l args W1 fun e W' =>
   (e = .returned (.bool true) ∧ J (pre ++ [x]) O W' ∧ KeepsO O W1 W') ∨ (e = .returned (.bool false) ∧ Jx (pre ++ [x]) O W'))
  {p : List Int} {k n0 : Int} {s : ByteArray} {c : List Tr} (hpre : (pre ++ walkL p (.mk k n0 s c)) <+: L) {O1 : Nat → Prop} {B w2 w3 : World} {vpc vnc : Value} (hlt : ∀ b, O1 b → b < B.heap.size) (hbB : base ≤ B.heap.size) (hj : J pre O1 B)
  (hb3 : Below B.heap.size B w3) (hic : IntsAt w2 (fun b => B.drew.heap.size ≤ b ∧ b < w2.heap.size) vpc p) (hb23 : Below w2.heap.size w2 w3) (_hb2 : Below B.heap.size B w2)
  (hrc : RepP w3 (fun b => w2.heap.size ≤ b ∧ b < w3.heap.size) (.mk k n0 s c) vnc) (m : Nat) :
  YieldAt .wide m Try.prog l #[vpc, vnc] w3 fun e W' => ∃ bb : Bool, e = .returned (.bool bb) ∧ ((bb = true ∧ J (pre ++ [(p, .mk k n0 s c)]) O1 W' ∧ KeepsO O1 B W') ∨ (bb = false ∧ Jx (pre ++ [(p, .mk k n0 s c)]) O1 W')) := by
 have hj3 := hJ _ _ _ _ _ hj (Moves.keep (X := fun b => B.heap.size ≤ b ∧ b < w3.heap.size) hb3 hlt (fun b hb => hb) hbB)
 have hargs : walkArgs (p, .mk k n0 s c) (fun b => B.heap.size ≤ b ∧ b < w3.heap.size) w3 #[vpc, vnc] := by
  refine ⟨fun b hb => hb.2, vpc, vnc, rfl, ?_, RepP.keep (fun b hb => ⟨by have h2 := _hb2.size; omega, hb.2⟩) (fun _ _ _ => rfl) _ hrc⟩
  exact hic.keep (fun b hb => ⟨hb.1, Nat.lt_of_lt_of_le hb.2 hb23.size⟩) (fun b o hb => hb23.cell (p := ⟨b, o, none⟩) hb.2)
 refine YieldAt.mono (hY m _ _ _ _ _ _ (visit_prefix hpre) hj3 (fun b hb => ⟨by have := hb.1; omega, fun e => by have h1 := hlt b e; have h2 := hb.1; omega⟩) hargs) fun e W' h => ?_
 rcases h with ⟨he, hj', hk⟩ | ⟨he, hx⟩
 ·exact ⟨true, he, .inl ⟨rfl, hj', (KeepsO.of_below hb3 hlt).trans hk⟩⟩
 ·exact ⟨false, he, .inr ⟨rfl, hx⟩⟩

theorem step_row {by_ bp bv l base : Nat} {R O1 O' : Nat → Prop} {p : List Int} {A B : World} (hst : Step bp O1 O' A B) (hit : It by_ bp bv l base O1 p A) (hR : ∀ b, R b → b < base) (hRO : ∀ b, R b → O1 b) : ∀ b, R b → B.heap[b]? = A.heap[b]? := fun b hb => by
 obtain ⟨vp, hbx, hown, _⟩ := hit.hp
 have h1 := hR b hb
 have h2 := hit.bp0
 exact hst.same b (hRO b hb) (by omega) (fun e => by rw [pathOwn_of hbx] at e; have := (hown.lt b e).1; omega)

/-- a kid of the row, cell by cell -/
theorem RowP.kid {w : World} {ok : Nat → Prop} {c : List Tr} {A : Option Addr} (h : RowP w ok c A 0) (j : Nat) (hj : j < c.length) :
  ∃ (b off : Nat) (A' : Option Addr) (cap' : Nat), A = some ⟨b, off, none⟩ ∧ ok b ∧ w.cell? ⟨b, off + j * 4, none⟩ = some (.int .u8 c[j].kind) ∧ w.cell? ⟨b, off + j * 4 + 1, none⟩ = some (.int .i64 c[j].num) ∧
   w.cell? ⟨b, off + j * 4 + 2, none⟩ = some (.string c[j].name) ∧ w.cell? ⟨b, off + j * 4 + 3, none⟩ = some (.slice A' c[j].kids.length cap') ∧
   RepP w ok c[j] (nodeV c[j].kind c[j].num c[j].name A' c[j].kids.length cap') := by
 obtain ⟨b, off, c0, c1, c2, c3, hA, hb, h0, h1, h2, h3, hr⟩ := rowP_at h j hj
 simp only [Nat.zero_add] at h0 h1 h2 h3
 obtain ⟨A', cap', hv, _, _⟩ := nodeOf hr
 have hv' := hv
 simp only [nodeV, Value.agg.injEq, Array.mk.injEq, List.cons.injEq, and_true] at hv'
 obtain ⟨rfl, rfl, rfl, rfl⟩ := hv'
 exact ⟨b, off, A', cap', hA, hb, h0, h1, h2, h3, hr⟩

theorem visit_prefix2 {L pre : List (List Int × Tr)} {p : List Int} {k n0 : Int} {s : ByteArray} {c : List Tr} {i : Nat} (h : (pre ++ walkL p (.mk k n0 s c)) <+: L) (hi : i < c.length) :
  (pre ++ [(p, .mk k n0 s c)] ++ walksL p 0 (c.take i) ++ walkL (p ++ [(i : Int)]) c[i]) <+: L := by
 obtain ⟨r, hr⟩ := walksL_take_prefix p c (i + 1)
 rw [walksL_take p c i hi] at hr
 refine List.IsPrefix.trans ⟨r, ?_⟩ h
 simp only [walkL, ← hr, List.append_assoc, List.cons_append, List.nil_append]

theorem visit_kid {by_ bp bv l base : Nat} {R O : Nat → Prop} {p : List Int} {W W' : World} {t : Tr} {v vq : Value} {n : Nat} {xs : List Value} (hk : RepP W R t v) (hit : It by_ bp bv l base O p W) (_hbx : W.heap[bp]? = some (.cells #[vq] 40 (0, 0)))
  (hown : W.ownsRow base 3 1 vq n xs) (hfin : ∀ b, b < W.heap.size → b ≠ bp → vq.ownBlock ≠ some b → W'.heap[b]? = W.heap[b]?) (hR : ∀ b, R b → b < base) (hRO : ∀ b, R b → O b) : RepP W' R t v :=
 RepP.keep (fun _ h => h) (fun b o hb => World.cell?_of_block (hfin b (hit.lt b (hRO b hb)) (by have := hR b hb; have := hit.bp0; omega) (fun e => by have := (hown.lt b e).1; have := hR b hb; omega))) t hk

def VisitPost (by_ bp bv l base : Nat) (L : List (List Int × Tr)) (J Jx : List (List Int × Tr) → (Nat → Prop) → World → Prop) (p : List Int) (t : Tr) (pre : List (List Int × Tr)) (O : Nat → Prop) (W : World) (e : Ending) (W' : World) : Prop :=
 (e = .returned (.bool true) ∧ ∃ O', Step bp O O' W W' ∧ It by_ bp bv l base O' p W' ∧ J (pre ++ walkL p t) O' W') ∨
 (e = .returned (.bool false) ∧ ∃ q O', (pre ++ q) <+: L ∧ Jx (pre ++ q) O' W')

set_option maxRecDepth 100000 in
set_option maxHeartbeats 2000000 in
theorem visit_in (by_ bp bv l base base0 : Nat) (hb0 : base0 ≤ base) (R : Nat → Prop) (L : List (List Int × Tr)) (J Jx : List (List Int × Tr) → (Nat → Prop) → World → Prop) (hJ : Abides base J)
  (hY : ∀ m pre x O X args W1, (pre ++ [x]) <+: L → J pre (fun b => O b ∨ X b) W1 → (∀ b, X b → base0 ≤ b ∧ ¬ O b) → walkArgs x X W1 args → YieldAt .wide m Try.prog l args W1 fun e W' =>
   (e = .returned (.bool true) ∧ J (pre ++ [x]) O W' ∧ KeepsO O W1 W') ∨ (e = .returned (.bool false) ∧ Jx (pre ++ [x]) O W'))
  (hR : ∀ b, R b → b < base) (t : Tr) :
  ∀ (p : List Int) (v : Value) (pre : List (List Int × Tr)) (O : Nat → Prop) (W : World) (n : Nat), RepP W R t v → (∀ b, R b → O b) → It by_ bp bv l base O p W → J pre O W → (pre ++ walkL p t) <+: L → t.size ≤ 1000000 → p.length + t.depth ≤ 1000000 →
   CallsIn .wide n Try.prog 64 #[v, .pointer (some ⟨by_, 0, none⟩), .pointer (some ⟨bp, 0, none⟩), .pointer (some ⟨bv, 0, none⟩)] W (VisitPost by_ bp bv l base L J Jx p t pre O W) := by
 induction t using Tr.ind with
 | h k n0 s c ih =>
  intro p v pre O W n hr hRO hit hj hpre hsz hdp
  simp only [RepP] at hr
  obtain ⟨A, cap, rfl, hf, hrow⟩ := hr
  obtain ⟨O1, vp, hsub, hOB, hit1, hj1, hbx1, hints, hrep, hrow1, hpo⟩ := visit_pre hJ hrow hf hRO hit hj
  unfold nodeV
  refine callsIn_of_wp Try.func64 rfl trivial ?_ rfl
  simp only [Try.ntmps64, List.size_toArray, List.length_cons, List.length_nil, Nat.reduceAdd, Nat.reduceSub, Array.replicate_succ, Array.replicate_zero, List.push_toArray, List.append_toArray, List.nil_append, List.cons_append]
  have hpl : p.length ≤ 1000000 := by omega
  have cy : (W.alloc (.cells #[.int .u8 k, .int .i64 n0, .string s, .slice A c.length cap] 26)).cell? ⟨by_, 0, none⟩ = some (.func (.yield l) #[] #[]) := cell_of_row _ _ _ _ _ _ hit1.hy
  have cp : (W.alloc (.cells #[.int .u8 k, .int .i64 n0, .string s, .slice A c.length cap] 26)).cell? ⟨bp, 0, none⟩ = some vp := cell_of_row _ _ _ _ _ _ hbx1
  have HJ := Lib.hid hJ
  have HY := Lib.hid hY
  have HR := Lib.hid hR
  have IH := Lib.hid ih
  have HROW := Lib.hid hrow1
  have HRO := Lib.hid hRO
  have HIT := Lib.hid hit
  have HIT1 := Lib.hid hit1
  have HJ1 := Lib.hid hj1
  have HINTS := Lib.hid hints
  have HREP := Lib.hid hrep
  have HBX := Lib.hid hbx1
  have HPO := Lib.hid hpo
  have HSUB := Lib.hid hsub
  have HPRE := Lib.hid hpre
  have HF := Lib.hid hf
  clear hJ hY hR ih hrow hRO hit hpre hf hit1 hj1 hbx1 hints hrep hrow1 hpo hsub hj
  gi_wp2_with fail
  rename_i K1 ha1 K ha
  have hKt : ∀ (vpc vnc : Value) (W4 : World), J (pre ++ [(p, .mk k n0 s c)]) O1 W4 → KeepsO O1 (W.alloc (.cells #[.int .u8 k, .int .i64 n0, .string s, .slice A c.length cap] 26)) W4 → K { tmps := #[Value.agg #[Value.int IntKind.u8 k, Value.int IntKind.i64 n0, Value.string s, Value.slice A c.length cap], Value.pointer (some ⟨by_, 0, none⟩), Value.pointer (some ⟨bp, 0, none⟩), Value.pointer (some ⟨bv, 0, none⟩), Value.pointer (some ⟨W.heap.size, 0, none⟩), Value.bool false, undef, undef, Value.func (.yield l) #[] #[], vp, vpc, Value.agg #[Value.int IntKind.u8 k, Value.int IntKind.i64 n0, Value.string s, Value.slice A c.length cap], vnc, Value.bool true, Value.bool false, undef, undef, undef, undef, undef, undef, undef, undef, undef, undef, undef, undef, undef, undef, undef, undef, undef, undef, undef, undef, undef, undef], defers := [] } W4 := by
   intro vpc vnc W4 hJ4 hk4
   have hit4 := HIT1.out.keeps hk4
   have hbox4 := (hk4.block _ hOB).trans (heap_alloc_new W _)
   have hrow4 : RowP W4 R c A 0 := RowP.keep (fun _ h => h) (fun b o hb => World.cell?_of_block (hk4.block b (HSUB.out b (HRO.out b hb)))) c HROW.out
   have hst4 : Step bp O1 O1 (W.alloc (.cells #[.int .u8 k, .int .i64 n0, .string s, .slice A c.length cap] 26)) W4 := Step.of_keeps hk4 HIT1.out.op
   have z0 := cell_of_row W4 _ 0 _ _ _ hbox4
   have z3 := cell_of_row W4 _ 3 _ _ _ hbox4
   simp only [List.getElem?_toArray, List.getElem?_cons_succ, List.getElem?_cons_zero] at z0 z3
   have HJ4 := Lib.hid hJ4
   have HIT4 := Lib.hid hit4
   have HBOX4 := Lib.hid hbox4
   have HROW4 := Lib.hid hrow4
   have HST4 := Lib.hid hst4
   have HK4 := Lib.hid hk4
   have hl1 := HF.out.l1
   have hl2 := HF.out.c1
   have hw1 : ∀ f, Fence.wide.fn f := fun _ => trivial
   have hw2 : Fence.wide.depth.isSome = false := rfl
   clear hJ4 hit4 hbox4 hrow4 hst4 hk4
   refine ha _ _ ?_
   gi_wp2_with fail
   gi_loopw [18] (fun s18 wr => ∃ (i : Nat) (O' : Nat → Prop), i ≤ c.length ∧ s18 = .int .i64 i ∧ Step bp O1 O' W4 wr ∧ It by_ bp bv l base O' p wr ∧ J (pre ++ [(p, .mk k n0 s c)] ++ walksL p 0 (c.take i)) O' wr) (fun s18 _ => c.length - (intOf s18).toNat)
   case atStart => exact ⟨0, O1, Nat.zero_le _, rfl, Step.refl _ _ _, HIT4.out, by simpa [walksL] using HJ4.out⟩
   case round =>
    obtain ⟨i, O', hi, rfl, hst, hit, hj⟩ := hrel
    by_cases hlt : i < c.length
    ·have hrowr : RowP wr R c A 0 := RowP.keep (fun _ h => h) (fun b o hb => World.cell?_of_block (step_row hst HIT4.out HR.out (fun b hb => HSUB.out b (HRO.out b hb)) b hb)) c HROW4.out
     obtain ⟨b, off, A', cap', rfl, hbR, g0, g1, g2, g3, hk⟩ := hrowr.kid i hlt
     have hmem : c[i] ∈ c := List.getElem_mem hlt
     have hszk : c[i].size ≤ 1000000 := by have := Tr.size_le_of_mem hmem; simp only [Tr.size] at hsz; omega
     have hdpk : (p ++ [(i : Int)]).length + c[i].depth ≤ 1000000 := by have := Tr.depth_le_of_mem hmem; simp only [Tr.depth] at hdp; simp; omega
     obtain ⟨vq, hbx, hown, hog⟩ := hit.hp
     have cq : wr.cell? ⟨bp, 0, none⟩ = some vq := cell_of_row _ _ _ _ _ _ hbx
     have cqlt := hit.lt _ hit.op
     obtain ⟨i0, hi0, hz0, hz1, hz2⟩ := info_parts infoInt
     have hnews := cell_one_new (wr.alloc (.cells #[.int .u8 c[i].kind, .int .i64 c[i].num, .string c[i].name, .slice A' c[i].kids.length cap'] 26)) (.int .i64 i) 3
     rw [World.size_alloc] at hnews
     have HST := Lib.hid hst
     have HITR := Lib.hid hit
     have HJR := Lib.hid hj
     have HBQ := Lib.hid hbx
     have HOQ := Lib.hid hown
     have HOG := Lib.hid hog
     have HKR := Lib.hid hk
     have HNW := Lib.hid hnews
     have HOWN2 := Lib.hid ((hown.alloc (.cells #[.int .u8 c[i].kind, .int .i64 c[i].num, .string c[i].name, .slice A' c[i].kids.length cap'] 26)).alloc (.cells #[.int .i64 i] 3))
     have hbs0 : base ≤ wr.heap.size := by have := hit.bp0; omega
     clear hst hit hj hbx hown hog hk hnews hrowr
     gi_wp2_with (gi_at_builtin; (refine wpListIn_append_own_at _ rfl (.tmp 23) (.tmp 25) _ rfl base 3 i0 _ 1 8 undInts hi0 hz0 hz1 hz2 rfl (by omega) vq p.length (p.map (Value.int .i64)) rfl HOWN2.out ⟨wr.heap.size + 1, 0, none⟩ 1 1 [.int .i64 i] rfl rfl HNW.out (by intro u hu; simp at hu; subst hu; rfl) (by simp only [maxLen]; omega) (by omega) (by simp; omega) ?_); intro v2 w2 hO2 hg2 _ hat2; obtain ⟨g2, cap2, rfl⟩ := ownsRow_succ hO2; (obtain ⟨hitb, hmvb, hstb, hfinb, hbxb, hkb⟩ := push_it HITR.out HBQ.out HOQ.out HOG.out hO2 hg2 (by simpa using hat2) (by have := hg2.size; simpa using this)); have f1 := cell_of_row _ _ 0 _ _ _ hbxb; have f2 := frozen_of_row _ _ 0 _ _ hbxb; have f3 := cell_of_row _ _ 0 _ _ _ hitb.hv; have f4 := cell_of_row _ _ 0 _ _ _ hkb; have f5 := cell_of_row _ _ 1 _ _ _ hkb; have f6 := cell_of_row _ _ 2 _ _ _ hkb; have f7 := cell_of_row _ _ 3 _ _ _ hkb; simp only [List.getElem?_toArray, List.getElem?_cons_succ, List.getElem?_cons_zero] at f1 f3 f4 f5 f6 f7; have HITB := Lib.hid hitb; have HMVB := Lib.hid hmvb; have HSTB := Lib.hid hstb; have HFINB := Lib.hid hfinb; clear hitb hmvb hstb hfinb hbxb hkb hO2 hg2 hat2)
     have hrepb := visit_kid HKR.out HITR.out HBQ.out HOQ.out HFINB.out HR.out (fun b hb => HST.out.sub b (HSUB.out b (HRO.out b hb)))
     have hjb := HJ.out _ _ _ _ _ HJR.out HMVB.out
     have hpreb := visit_prefix2 HPRE.out hlt
     unfold nodeV at hrepb
     refine (IH.out _ hmem (p ++ [(i : Int)]) _ (pre ++ [(p, .mk k n0 s c)] ++ walksL p 0 (c.take i)) _ _ (n - 1) hrepb (fun b hb => .inl (HST.out.sub b (HSUB.out b (HRO.out b hb)))) HITB.out hjb hpreb hszk hdpk).mono ?_
     clear hrepb hjb hpreb
     rintro e W5 (⟨rfl, O3, hst5, hit5, hj5⟩ | ⟨rfl, q, O3, hq, hx5⟩)
     ·obtain ⟨v5, hbx5, hown5, hog5⟩ := hit5.hp
      have hown5' : W5.ownsRow base 3 1 v5 (p.length + 1) (p.map (Value.int .i64) ++ [.int .i64 i]) := by simpa using hown5
      obtain ⟨g5, cap5, rfl⟩ := ownsRow_succ hown5'
      have hcap5 : p.length + 1 ≤ cap5 := by
       rcases hown5'.2 with ⟨h, _⟩ | ⟨_, _, _, he, _, _, hle, _⟩
       ·cases h
       ·cases he; exact hle
      obtain ⟨hit6, hmv6, hst6⟩ := pop_it hit5 hbx5 hown5' (hog5 g5 rfl)
      have hj6 := HJ.out _ _ _ _ _ hj5 hmv6
      have t1 := cell_of_row _ _ 0 _ _ _ hbx5
      have t2 := frozen_of_row _ _ 0 _ _ hbx5
      simp only [List.getElem?_toArray, List.getElem?_cons_zero] at t1
      have HST7 := Lib.hid (((HST.out.trans HSTB.out HIT4.out.lt).trans hst5 HIT4.out.lt).trans hst6 HIT4.out.lt)
      have HIT6 := Lib.hid hit6
      have HJ6 := Lib.hid hj6
      have HWT := Lib.hid (walksL_take p c i hlt)
      clear hit6 hmv6 hst6 hj6 hj5 hit5 hst5 hbx5 hown5 hown5' hog5 f1 f2 f3 f4 f5 f6 f7
      gi_wp2_with fail
      go_roundw
      case rel => exact ⟨i + 1, O3, by omega, by go_num, HST7.out, HIT6.out, by rw [HWT.out, ← List.append_assoc]; exact HJ6.out⟩
      case measure => simp [intOf]; omega
     ·gi_wp2_with fail
      go_ret
      exact .inr ⟨rfl, [(p, .mk k n0 s c)] ++ walksL p 0 (c.take i) ++ q, O3, by simpa [List.append_assoc] using hq, by simpa [List.append_assoc] using hx5⟩
    ·obtain rfl : i = c.length := by omega
     gi_wp2_with fail
     go_ret
     have hs0 : Step bp O O1 W (W.alloc (.cells #[.int .u8 k, .int .i64 n0, .string s, .slice A c.length cap] 26)) := ⟨by simp, HSUB.out, fun b hb _ _ => Below.heap_alloc _ _ _ (HIT.out.lt b hb), fun g hg => .inl (HPO.out ▸ hg)⟩
     refine .inl ⟨rfl, O', (hs0.trans HST4.out HIT.out.lt).trans hst HIT.out.lt, hit, ?_⟩
     rw [List.take_length] at hj
     simpa [walkL] using hj
  have hKf : ∀ (vpc vnc : Value) (W4 : World), Jx (pre ++ [(p, .mk k n0 s c)]) O1 W4 → K { tmps := #[Value.agg #[Value.int IntKind.u8 k, Value.int IntKind.i64 n0, Value.string s, Value.slice A c.length cap], Value.pointer (some ⟨by_, 0, none⟩), Value.pointer (some ⟨bp, 0, none⟩), Value.pointer (some ⟨bv, 0, none⟩), Value.pointer (some ⟨W.heap.size, 0, none⟩), Value.bool false, undef, undef, Value.func (.yield l) #[] #[], vp, vpc, Value.agg #[Value.int IntKind.u8 k, Value.int IntKind.i64 n0, Value.string s, Value.slice A c.length cap], vnc, Value.bool false, Value.bool true, undef, undef, undef, undef, undef, undef, undef, undef, undef, undef, undef, undef, undef, undef, undef, undef, undef, undef, undef, undef, undef, undef], defers := [] } W4 := by
   intro vpc vnc W4 hx4
   refine ha _ _ ?_
   gi_wp2_with fail
   go_ret
   exact .inr ⟨rfl, [(p, .mk k n0 s c)], O1, visit_prefix HPRE.out, hx4⟩
  have HKT := Lib.hid hKt
  have HKF := Lib.hid hKf
  clear hKt hKf
  have hw1 : ∀ f, Fence.wide.fn f := fun _ => trivial
  have hw2 : Fence.wide.depth.isSome = false := rfl
  have hmx : Try.prog.follows .mixedOrders = true := by kernel_rfl
  gi_region_with_o (first
   | (gi_at_call 34; (refine (callsIn_wide.2 (sclone_any vp p (W.alloc (.cells #[.int .u8 k, .int .i64 n0, .string s, .slice A c.length cap] 26)).drew HINTS.out hpl)).mono ?_); rintro e w2 ⟨vpc, rfl, hic2, hb2⟩; have hb2' : Below (W.alloc (.cells #[.int .u8 k, .int .i64 n0, .string s, .slice A c.length cap] 26)).heap.size (W.alloc (.cells #[.int .u8 k, .int .i64 n0, .string s, .slice A c.length cap] 26)) w2 := Below.undrew hb2; have y2 := (hb2'.cell (p := ⟨by_, 0, none⟩) (HIT1.out.lt _ HIT1.out.oy)).trans cy; obtain ⟨x0, x1, x2, x3⟩ := box_at hb2'; have HIC2 := Lib.hid hic2; have HB2 := Lib.hid hb2'; clear hic2 hb2 hb2')
   | (gi_at_call 62; refine (callsIn_wide.2 (clone_any (.mk k n0 s c) _ _ (HREP.out.at_ (Nat.le_refl _) HB2.out) hsz)).mono ?_; rintro e w3 ⟨vnc, rfl, hrc3, hb3⟩; have hbb3 := HB2.out.trans (hb3.mono HB2.out.size); have y3 := (hbb3.cell (p := ⟨by_, 0, none⟩) (HIT1.out.lt _ HIT1.out.oy)).trans cy; obtain ⟨fn, tmps, assign, body, hy, hRd⟩ := visit_yield hb0 HJ.out HY.out HPRE.out HIT1.out.lt (by have h1 := HIT1.out.by0; have h2 := HIT1.out.lt _ HIT1.out.oy; omega) HJ1.out hbb3 HIC2.out hb3 HB2.out hrc3 (n - 1); have HB3 := Lib.hid hbb3; clear hrc3 hb3 hbb3)
   | (refine hRd.mono ?_; clear hRd; rintro e W4 ⟨bb, rfl, hpost⟩))
  all_goals
   rcases hpost with ⟨rfl, hJ4, hk4⟩ | ⟨rfl, hx4⟩
   ·exact HKT.out _ _ _ hJ4 hk4
   ·exact HKF.out _ _ _ hx4

end Go.Proofs.Ytmglacjcefajlaa

/- Walk: the iterator, and the function that hands it out. -/
namespace Go.Proofs.Ytmglacjcefajlaa
open Go.RowKit Go.Shelf
attribute [local go_sem] Oper.semAt_some

theorem heap3 (w : World) (A B C : Obj) : (((w.alloc A).alloc B).alloc C).heap[w.heap.size]? = some A ∧ (((w.alloc A).alloc B).alloc C).heap[w.heap.size + 1]? = some B ∧ (((w.alloc A).alloc B).alloc C).heap[w.heap.size + 2]? = some C := by
 refine ⟨?_, ?_, ?_⟩
 ·rw [Below.heap_alloc _ _ _ (by simp only [World.size_alloc]; omega)]; exact heap_alloc2_old w A B
 ·rw [Below.heap_alloc _ _ _ (by simp only [World.size_alloc]; omega)]; exact heap_alloc2_new w A B
 ·have := heap_alloc_new ((w.alloc A).alloc B) C; simpa using this

theorem walk_pre {l : Nat} {O₀ : Nat → Prop} {J : List (List Int × Tr) → (Nat → Prop) → World → Prop} {Z : Nat} (hJ : Abides Z J) {W : World} (hZ : Z ≤ W.heap.size) (hlt : ∀ b, O₀ b → b < W.heap.size) (hj : J [] O₀ W) :
  ∃ O3 : Nat → Prop, (∀ b, O₀ b → O3 b) ∧ It W.heap.size (W.heap.size + 1) (W.heap.size + 1 + 1) l W.heap.size O3 [] (((W.alloc (.cells #[.func (.yield l) #[] #[]] 87)).alloc (.cells #[.slice none 0 0] 40)).alloc (.cells #[.func (.func 64) #[] #[.pointer (some ⟨W.heap.size, 0, none⟩), .pointer (some ⟨W.heap.size + 1, 0, none⟩), .pointer (some ⟨W.heap.size + 1 + 1, 0, none⟩)]] 51)) ∧ J [] O3 (((W.alloc (.cells #[.func (.yield l) #[] #[]] 87)).alloc (.cells #[.slice none 0 0] 40)).alloc (.cells #[.func (.func 64) #[] #[.pointer (some ⟨W.heap.size, 0, none⟩), .pointer (some ⟨W.heap.size + 1, 0, none⟩), .pointer (some ⟨W.heap.size + 1 + 1, 0, none⟩)]] 51)) := by
 have hb : Below W.heap.size W (((W.alloc (.cells #[.func (.yield l) #[] #[]] 87)).alloc (.cells #[.slice none 0 0] 40)).alloc (.cells #[.func (.func 64) #[] #[.pointer (some ⟨W.heap.size, 0, none⟩), .pointer (some ⟨W.heap.size + 1, 0, none⟩), .pointer (some ⟨W.heap.size + 1 + 1, 0, none⟩)]] 51)) := (((Below.refl _ W).alloc (Nat.le_refl _) _).alloc (by simp) _).alloc (by simp only [World.size_alloc]; omega) _
 have hmv := Moves.keep (X := fun b => b = W.heap.size ∨ b = W.heap.size + 1 ∨ b = W.heap.size + 1 + 1) hb hlt (fun b hb => by simp only [World.size_alloc]; omega) hZ
 obtain ⟨h1, h2, h3⟩ := heap3 W (.cells #[.func (.yield l) #[] #[]] 87) (.cells #[.slice none 0 0] 40) (.cells #[.func (.func 64) #[] #[.pointer (some ⟨W.heap.size, 0, none⟩), .pointer (some ⟨W.heap.size + 1, 0, none⟩), .pointer (some ⟨W.heap.size + 1 + 1, 0, none⟩)]] 51)
 exact ⟨_, fun b hb => .inl hb, ⟨h1, h3, ⟨_, h2, World.ownsRow_nil _ _ _ _, fun g e => by cases e⟩, .inr (.inl rfl), .inr (.inr (.inl rfl)), .inr (.inr (.inr rfl)), hmv.lt, Nat.le_refl _, by omega, by omega⟩, hJ _ _ _ _ _ hj hmv⟩

set_option maxRecDepth 100000 in
set_option maxHeartbeats 1000000 in
/-- the iterator of Walk gives the nodes in pre-order with their paths -/
theorem walk_iter (w₀ : World) (Br : Nat) (R : Nat → Prop) (t : Tr) (c0 c1 c2 c3 : Value) (hroot : w₀.heap[Br]? = some (.cells #[c0, c1, c2, c3] 26 (0, 0))) (hrep : RepP w₀ R t (.agg #[c0, c1, c2, c3])) (hR : ∀ b, R b → b < w₀.heap.size) (hsz : t.size ≤ 1000000) (hdp : t.depth ≤ 1000000) :
  Iter Try.prog 63 #[.pointer (some ⟨Br, 0, none⟩)] walkArgs (walkL [] t) (fun b => R b ∨ b = Br) w₀ := by
 intro n l J Jx W hws hbelow hJ hY hj0
 have hBr := (Array.getElem?_eq_some_iff.1 hroot).1
 have hrootW : W.heap[Br]? = some (.cells #[c0, c1, c2, c3] 26 (0, 0)) := (hbelow Br (.inr rfl)).trans hroot
 have hrepW : RepP W R t (.agg #[c0, c1, c2, c3]) := RepP.keep (fun _ h => h) (fun b o hb => World.cell?_of_block (hbelow b (.inl hb))) t hrep
 obtain ⟨O3, hsub, hit, hj3⟩ := walk_pre (l := l) hJ (Nat.le_refl _) (O₀ := fun b => R b ∨ b = Br) (W := W) (fun b hb => hb.elim (fun e => by have := hR b e; omega) (fun e => by omega)) hj0
 have hb3 : Below W.heap.size W (((W.alloc (.cells #[.func (.yield l) #[] #[]] 87)).alloc (.cells #[.slice none 0 0] 40)).alloc (.cells #[.func (.func 64) #[] #[.pointer (some ⟨W.heap.size, 0, none⟩), .pointer (some ⟨W.heap.size + 1, 0, none⟩), .pointer (some ⟨W.heap.size + 1 + 1, 0, none⟩)]] 51)) := (((Below.refl _ W).alloc (Nat.le_refl _) _).alloc (by simp) _).alloc (by simp only [World.size_alloc]; omega) _
 have hrep3 : RepP (((W.alloc (.cells #[.func (.yield l) #[] #[]] 87)).alloc (.cells #[.slice none 0 0] 40)).alloc (.cells #[.func (.func 64) #[] #[.pointer (some ⟨W.heap.size, 0, none⟩), .pointer (some ⟨W.heap.size + 1, 0, none⟩), .pointer (some ⟨W.heap.size + 1 + 1, 0, none⟩)]] 51)) R t (.agg #[c0, c1, c2, c3]) := RepP.keep (fun _ h => h) (fun b o hb => hb3.cell (p := ⟨b, o, none⟩) (by have := hR b hb; show b < _; omega)) t hrepW
 have hroot3 : (((W.alloc (.cells #[.func (.yield l) #[] #[]] 87)).alloc (.cells #[.slice none 0 0] 40)).alloc (.cells #[.func (.func 64) #[] #[.pointer (some ⟨W.heap.size, 0, none⟩), .pointer (some ⟨W.heap.size + 1, 0, none⟩), .pointer (some ⟨W.heap.size + 1 + 1, 0, none⟩)]] 51)).heap[Br]? = some (.cells #[c0, c1, c2, c3] 26 (0, 0)) := (hb3.block Br (by omega)).trans hrootW
 have hv := visit_in W.heap.size (W.heap.size + 1) (W.heap.size + 1 + 1) l W.heap.size W.heap.size (Nat.le_refl _) R (walkL [] t) J Jx hJ hY (fun b hb => by have := hR b hb; omega) t [] _ [] O3 _ (n - 1) hrep3 (fun b hb => hsub b (.inl hb)) hit hj3 (by simp) hsz (by simpa using hdp)
 have q0 := cell_of_row _ _ 0 _ _ _ hroot3
 have q1 := cell_of_row _ _ 1 _ _ _ hroot3
 have q2 := cell_of_row _ _ 2 _ _ _ hroot3
 have q3 := cell_of_row _ _ 3 _ _ _ hroot3
 simp only [List.getElem?_toArray, List.getElem?_cons_succ, List.getElem?_cons_zero] at q0 q1 q2 q3
 have HV := Lib.hid hv
 have hw1 : ∀ f, Fence.wide.fn f := fun _ => trivial
 have hw2 : Fence.wide.depth.isSome = false := rfl
 have hBrW : Br < W.heap.size := by omega
 clear hv hrep3 hroot3 hit hj3 hrepW hrootW hroot hrep hJ hY
 obtain ⟨x0, hx0⟩ : ∃ x, x = c0 := ⟨_, rfl⟩
 refine callsIn_of_wp Try.func63 rfl trivial ?_ rfl
 simp only [Try.ntmps63, List.size_toArray, List.length_cons, List.length_nil, Nat.reduceAdd, Nat.reduceSub, Array.replicate_succ, Array.replicate_zero, List.push_toArray, List.append_toArray, List.nil_append, List.cons_append]
 gi_wp2_with fail
 refine HV.out.mono ?_
 rintro e W5 (⟨rfl, O4, hst5, hit5, hj5⟩ | ⟨rfl, q, O4, hq, hx5⟩)
 ·gi_wp2_with fail
  go_end0
  exact ⟨⟨_, rfl⟩, .inl ⟨O4, by simpa using hj5⟩⟩
 ·gi_wp2_with fail
  go_end0
  exact ⟨⟨_, rfl⟩, .inr ⟨q, O4, by simpa using hq, by simpa using hx5⟩⟩

/-- Walk hands out the iterator, over a copy of the tree in new memory -/
def WalkPost (t : Tr) (w : World) (e : Ending) (w' : World) : Prop :=
 ∃ (Br : Nat) (c0 c1 c2 c3 : Value), e = .returned (.func (.func 63) #[] #[.pointer (some ⟨Br, 0, none⟩)]) ∧ w.heap.size ≤ Br ∧ w'.heap[Br]? = some (.cells #[c0, c1, c2, c3] 26 (0, 0)) ∧
  RepP w' (fun b => w.heap.size ≤ b ∧ b < w'.heap.size) t (.agg #[c0, c1, c2, c3]) ∧ Below w.heap.size w w'

set_option maxHeartbeats 400000 in
theorem walk_any (t : Tr) (v : Value) (w : World) (hr : Rep w w.heap.size t v) (hsz : t.size ≤ 1000000) : Calls Try.prog 40 #[v] w (WalkPost t w) := by
 cases t with
 | mk k n s c =>
 have hr' := hr
 simp only [Rep] at hr'
 obtain ⟨A, cap, rfl, hf, _⟩ := hr'
 have HC := Lib.hid (clone_any _ _ _ (hr.alloc (Nat.le_refl _) (.cells #[.int .u8 k, .int .i64 n, .string s, .slice A c.length cap] 26)) hsz)
 clear hr
 unfold nodeV at *
 go_enter Try.func40, Try.ntmps40
 go_wp2_with fail
 refine HC.out.mono ?_
 rintro e w1 ⟨v1, rfl, hr1, hb1⟩
 obtain ⟨A1, cap1, rfl, hf1, _⟩ := nodeOf hr1
 unfold nodeV at *
 have HR1 := Lib.hid hr1
 have HB1 := Lib.hid hb1
 have hs1 : w.heap.size ≤ w1.heap.size := by have := hb1.size; simp at this; omega
 clear hr1 hb1 hf1
 go_wp2_with fail
 go_ret
 have hb2 : Below w.heap.size w w1 := ((Below.refl _ w).alloc (Nat.le_refl _) _).trans (HB1.out.mono (by simp))
 refine ⟨w1.heap.size, _, _, _, _, rfl, hs1, heap_alloc_new w1 _, ?_, hb2.alloc hs1 _⟩
 refine RepP.keep (fun b hb => ⟨by have := hb.1; simp at this; omega, by have := hb.2; simp; omega⟩) (fun b o hb => World.cell?_alloc_lt w1 _ ⟨b, o, none⟩ hb.2) _ HR1.out

end Go.Proofs.Ytmglacjcefajlaa

/- Contracts that were proved in memory, as functions of data. -/
namespace Go.Proofs.Ytmglacjcefajlaa
open Go.RowKit

def orcN (f : Tr → Option D) : List D → Option D
 | [d] => (toTr d).bind f
 | _ => none
def orcS (f : ByteArray → Option D) : List D → Option D
 | [.str s] => f s
 | _ => none

def Fit (P : Program) (k : Nat) (o : List D → Option D) : Prop := ∀ args d, o args = some d → d.under 0 = true ∧ d.strip = d ∧ PContract P k args d

theorem vals_one {w : World} {g : Gh} {d : D} {vs : List Value} (h : vals w g [d] vs) : ∃ v, vs = [v] ∧ val w g d v := by
 obtain ⟨h1, h2⟩ := h
 match vs, h1 with
 | [v], _ => exact ⟨v, rfl, h2 0 (by simp) (by simp)⟩
theorem val_b (w : World) (g : Gh) (b : Bool) : val w g (.bool b) (.bool b) := val_of_R (.bool b) rfl

theorem fit_test {k : Nat} {p : Tr → Bool} (h : ∀ t, Tests k p t) : Fit Try.prog k (orcN fun t => some (.bool (p t))) := by
 intro args d ho
 unfold orcN at ho
 split at ho
 ·rename_i x
  rw [Option.bind_eq_some_iff] at ho
  obtain ⟨t, ht, e⟩ := ho
  cases e
  have hx := toTr_eq ht
  subst hx
  refine ⟨rfl, rfl, PContract.of_cells fun g vs w hlt hv => ?_⟩
  obtain ⟨v, rfl, hv1⟩ := vals_one hv
  refine (h t v w (rep_of_val hlt hv1)).mono ?_
  rintro e w' ⟨rfl, hb⟩
  exact ⟨_, rfl, hb, val_b _ _ _⟩
 ·cases ho
theorem fit_name {k : Nat} {p : ByteArray → Bool} (h : ∀ s : ByteArray, s.size ≤ 9223372036854775807 → ∀ w, Calls Try.prog k #[.string s] w fun e w' => e = .returned (.bool (p s)) ∧ Below w.heap.size w w') : Fit Try.prog k (orcS fun s => some (.bool (p s))) := by
 intro args d ho
 unfold orcS at ho
 split at ho
 ·rename_i s
  cases ho
  refine ⟨rfl, rfl, PContract.of_cells fun g vs w hlt hv => ?_⟩
  obtain ⟨v, rfl, hv1⟩ := vals_one hv
  obtain ⟨rfl, hs⟩ := val_str hv1
  refine (h s hs w).mono ?_
  rintro e w' ⟨rfl, hb⟩
  exact ⟨_, rfl, hb, val_b _ _ _⟩
 ·cases ho
/-- the functions whose contracts were proved in memory -/
def orcB : List (Nat × (List D → Option D)) :=
 [(45, orcN fun t => some (.bool (exprB t))),
 (44, orcN fun t => some (.bool (placeB t))),
 (24, orcN fun t => some (.bool (stmtB t))),
 (49, orcN fun t => some (.bool (blockB t))),
 (31, orcS fun s => some (.bool (nameB s)))]
theorem orcB_fit : ∀ x ∈ orcB, Fit Try.prog x.1 x.2 := by
 intro x hx
 simp only [orcB, List.mem_cons, List.not_mem_nil, or_false] at hx
 rcases hx with rfl | rfl | rfl | rfl | rfl
 ·exact fit_test isExpr_any
 ·exact fit_test isPlace_any
 ·exact fit_test isStmt_any
 ·exact fit_test isBlock_any
 ·exact fit_name name_any

def lookT : List (Nat × (List D → Option D)) → Nat → List D → Option D
 | [], _, _ => none
 | (k, f) :: r, n, args => if n = k then f args else lookT r n args
theorem look_fit {P : Program} : ∀ {l : List (Nat × (List D → Option D))}, (∀ x ∈ l, Fit P x.1 x.2) → ∀ k args d, lookT l k args = some d → d.under 0 = true ∧ d.strip = d ∧ PContract P k args d
 | [], _, k, args, d, h => by cases h
 | (n, f) :: r, hf, k, args, d, h => by
  unfold lookT at h
  split at h
  ·rename_i e
   subst e
   exact hf (k, f) List.mem_cons_self args d h
  ·exact look_fit (fun x hx => hf x (List.mem_cons_of_mem _ hx)) k args d h

def fnOk (P : Program) (k : Nat) : Bool := match P.funcs[k]? with
 | some fn => (match fn.body with | some b => chkCode b | none => false)
 | none => false
theorem fnOk_chk {P : Program} {l : List Nat} (h : l.all (fnOk P) = true) : ∀ k f body, l.contains k = true → P.funcs[k]? = some f → f.body = some body → chkCode body = true := by
 intro k f body hk hf hb
 have := List.all_eq_true.1 h k (List.contains_iff_mem.1 hk)
 unfold fnOk at this
 rw [hf] at this
 simp only [hb] at this
 exact this

end Go.Proofs.Ytmglacjcefajlaa

/- Clone and Walk as functions of data: contracts that were proved in memory. -/
namespace Go.Proofs.Ytmglacjcefajlaa
open Go.RowKit

/-- a tree in memory reads as its datum -/
theorem R_of_rep {w : World} {ok : Nat → Prop} {g : Gh} (hg : ∀ b o, ok b → g.ok b o) (t : Tr) : ∀ {cs : List Value}, RepP w ok t (.agg cs.toArray) → R w g (dN t) cs := by
 induction t using Tr.ind with
 | h k n s c ih =>
  intro cs h
  simp only [RepP] at h
  obtain ⟨A, cap, hv, hf, hrow⟩ := h
  obtain ⟨f1, f2, f3, f4, f5, f6, f7⟩ := hf
  have hcs : cs = [.int .u8 k, .int .i64 n, .string s, .slice A c.length cap] := by
   simp only [nodeV, Value.agg.injEq] at hv
   have := congrArg Array.toList hv
   simpa using this
  subst hcs
  rw [dN_eq]
  simp only [Tr.kind, Tr.num, Tr.name, Tr.kids]
  refine R_agg_of rfl (fun j h1 h2 => ?_)
  match j with
  | 0 => exact .int _ _ ⟨by simp [IntKind.min, IntKind.signed]; omega, by simp [IntKind.max, IntKind.bits, IntKind.signed]; omega⟩
  | 1 => exact .int _ _ ⟨by simp [IntKind.min, IntKind.bits, IntKind.signed]; omega, by simp [IntKind.max, IntKind.bits, IntKind.signed]; omega⟩
  | 2 => exact .str _ f5
  | 3 =>
   have hat := fun j hj => rowP_at hrow j hj
   have hk : ∀ j, ∃ q : List Value, ∀ hj : j < c.length, ∃ b off, A = some ⟨b, off, none⟩ ∧ q.length = 4 ∧ R w g (dN c[j]) q ∧ ∀ m u, q[m]? = some u → g.ok b (off + j * 4 + m) ∧ w.cell? ⟨b, off + j * 4 + m, none⟩ = some u := by
    intro j
    by_cases hj : j < c.length
    ·obtain ⟨b, off, c0, c1, c2, c3, q1, q2, q3, q4, q5, q6, q7⟩ := hat j hj
     rw [Nat.zero_add] at q3 q4 q5 q6
     refine ⟨[c0, c1, c2, c3], fun _ => ⟨b, off, q1, rfl, ih _ (List.getElem_mem hj) q7, fun m u hu => ⟨hg b _ q2, ?_⟩⟩⟩
     match m with
     | 0 => cases hu; exact q3
     | 1 => cases hu; exact q4
     | 2 => cases hu; exact q5
     | 3 => cases hu; exact q6
     | m + 4 => simp at hu
    ·exact ⟨[], fun h => absurd h hj⟩
   have key := R.slice (w := w) (g := g) .imm (if (c.map dN).isEmpty then 0 else 4) (c.map dN) A cap (fun j => Classical.choose (hk j)) (by simpa using f6) f7 (fun _ _ q => by cases q) trivial
    trivial
    (fun j hj => by
     have hj' : j < c.length := by simpa using hj
     obtain ⟨b, off, _, _, q3, _⟩ := Classical.choose_spec (hk j) hj'
     rw [List.getElem_map]; exact q3)
    (fun j hj => by
     have hj' : j < c.length := by simpa using hj
     obtain ⟨b, off, _, q2, _, _⟩ := Classical.choose_spec (hk j) hj'
     rw [sl_n (j := j) hj]; exact q2)
    (fun j hj => by
     have hj' : j < c.length := by simpa using hj
     obtain ⟨b, off, q1, _, _, q4⟩ := Classical.choose_spec (hk j) hj'
     rw [sl_n (j := j) hj]
     exact ⟨b, off, q1, q4⟩)
   simpa [sl] using key
theorem val_of_rep {w : World} {ok : Nat → Prop} {g : Gh} (hg : ∀ b o, ok b → g.ok b o) {t : Tr} {v : Value} (h : RepP w ok t v) : val w g (dN t) v := by
 have hv : ∃ cs : List Value, v = .agg cs.toArray := by
  cases t with
  | mk k n s c =>
   simp only [RepP] at h
   obtain ⟨A, cap, hv, _⟩ := h
   exact ⟨[.int .u8 k, .int .i64 n, .string s, .slice A c.length cap], hv⟩
 obtain ⟨cs, rfl⟩ := hv
 have hR := R_of_rep hg t h
 rw [dN_eq] at hR ⊢
 exact val_of_agg hR

/-- a slice of ints in memory reads as its datum -/
theorem val_of_ints {w : World} {ok : Nat → Prop} {g : Gh} (hg : ∀ b o, ok b → g.ok b o) {p : List Int} {v : Value} (h : IntsAt w ok v p) (hp : ∀ n ∈ p, inr .i64 n) : val w g (sl 1 (p.map dI)) v := by
 obtain ⟨A, cap, rfl, h1, h2, _, hc⟩ := h
 have key := R.slice (w := w) (g := g) .imm (if (p.map dI).isEmpty then 0 else 1) (p.map dI) A cap (fun j => [.int .i64 ((p[j]?).getD 0)]) (by simpa using h1) h2 (fun _ _ q => by cases q) trivial trivial
  (fun j hj => by
   have hj' : j < p.length := by simpa using hj
   simp only [List.getElem_map, dI, List.getElem?_eq_getElem hj', zgd]
   exact .int _ _ (hp _ (List.getElem_mem hj')))
  (fun j hj => by rw [sl_n (j := j) hj]; rfl)
  (fun j hj => by
   have hj' : j < p.length := by simpa using hj
   obtain ⟨b, off, q1, q2, q3⟩ := hc j hj'
   rw [sl_n (j := j) hj]
   refine ⟨b, off, q1, fun m u hu => ?_⟩
   match m with
   | 0 =>
    simp only [zg0, Option.some.injEq, List.getElem?_eq_getElem hj', zgd] at hu
    subst hu
    rw [Nat.mul_one, Nat.add_zero]
    exact ⟨hg b _ q2, q3⟩
   | m + 1 => simp at hu)
 refine val_of_R ?_ rfl
 simpa [sl] using key

theorem fit_makes {k : Nat} {N : Nat} (h : ∀ (t : Tr) (v : Value) (w : World), Rep w w.heap.size t v → t.size ≤ N → Calls Try.prog k #[v] w (Makes t w)) : Fit Try.prog k (orcN fun t => if t.size ≤ N then some (dN t) else none) := by
 intro args d ho
 unfold orcN at ho
 split at ho
 ·rename_i x
  rw [Option.bind_eq_some_iff] at ho
  obtain ⟨t, ht, e⟩ := ho
  split at e
  ·rename_i hle
   cases e
   have hx := toTr_eq ht
   subst hx
   refine ⟨dN_under 0 t, dN_strip t, PContract.of_cells fun g vs w hlt hv => ?_⟩
   obtain ⟨v, rfl, hv1⟩ := vals_one hv
   refine (h t v w (rep_of_val hlt hv1) hle).mono ?_
   rintro e w' ⟨v', rfl, hr, hb⟩
   exact ⟨v', rfl, hb, val_of_rep (ok := fun b => w.heap.size ≤ b ∧ b < w'.heap.size) (fun b o q => Or.inr q) hr⟩
  ·cases e
 ·cases ho

mutual
theorem Tr.depth_le_size : ∀ t : Tr, t.depth ≤ t.size
 | .mk k n s c => by have := Tr.depths_le_sizes c; simp only [Tr.depth, Tr.size]; omega
theorem Tr.depths_le_sizes : ∀ c : List Tr, Tr.depths c ≤ Tr.sizes c
 | [] => by simp [Tr.depths, Tr.sizes]
 | t :: r => by have h1 := Tr.depth_le_size t; have h2 := Tr.depths_le_sizes r; simp only [Tr.depths, Tr.sizes]; omega
end
/-- what Walk's iterator yields -/
def walkD (t : Tr) : List (List D) := (walkL [] t).map fun x => [sl 1 (x.1.map dI), dN x.2]

theorem Iter.map {α β : Type} {P : Program} {gf : Nat} {lb : Array Value} {encs : α → (Nat → Prop) → World → Array Value → Prop} {encs' : β → (Nat → Prop) → World → Array Value → Prop} {L : List α} {F : Nat → Prop} {w : World} (h : Iter P gf lb encs L F w) (f : α → β)
  (hf : ∀ x ∈ L, ∀ X W args, encs x X W args → encs' (f x) X W args) : Iter P gf lb encs' (L.map f) F w := by
 intro n l J Jx W h1 h2 hJ hY h0
 have := h n l (fun pre O W => J (pre.map f) O W) (fun pre O W => Jx (pre.map f) O W) W h1 h2 (fun s O O' W W' q hm => hJ _ _ _ _ _ q hm) (fun m pre x O X args W1 hp hj hX he => by
  have hx : x ∈ L := by
   obtain ⟨r, hr⟩ := hp
   rw [← hr]; simp
  have hp' : (pre.map f ++ [f x]) <+: L.map f := by
   obtain ⟨r, hr⟩ := hp
   exact ⟨r.map f, by rw [← hr]; simp⟩
  have := hY m (pre.map f) (f x) O X args W1 hp' hj hX (hf x hx X W1 args he)
  simpa using this) h0
 refine this.mono fun e W' q => ⟨q.1, ?_⟩
 rcases q.2 with q | ⟨pre, O', q1, q2⟩
 ·exact .inl q
 ·exact .inr ⟨pre.map f, O', by obtain ⟨r, hr⟩ := q1; exact ⟨r.map f, by rw [← hr]; simp⟩, q2⟩

mutual
theorem walkL_path : ∀ (t : Tr) (p : List Int) (N : Nat), t.size ≤ N → (∀ n ∈ p, 0 ≤ n ∧ n < N) → ∀ x ∈ walkL p t, ∀ n ∈ x.1, 0 ≤ n ∧ n < (N : Int)
 | .mk k m s c, p, N, hs, hp, x, hx => by
  simp only [walkL, List.mem_cons] at hx
  rcases hx with rfl | hx
  ·exact hp
  ·exact walksL_path c p 0 N (by simp only [Tr.size] at hs; omega) hp x hx
theorem walksL_path : ∀ (c : List Tr) (p : List Int) (i N : Nat), i + Tr.sizes c < N → (∀ n ∈ p, 0 ≤ n ∧ n < N) → ∀ x ∈ walksL p i c, ∀ n ∈ x.1, 0 ≤ n ∧ n < (N : Int)
 | [], _, _, _, _, _, x, hx => by cases hx
 | t :: r, p, i, N, hs, hp, x, hx => by
  simp only [walksL, List.mem_append] at hx
  simp only [Tr.sizes] at hs
  have h1 : 1 ≤ t.size := by cases t; simp only [Tr.size]; omega
  rcases hx with hx | hx
  ·refine walkL_path t (p ++ [(i : Int)]) N (by omega) (fun n hn => ?_) x hx
   rcases List.mem_append.1 hn with q | q
   ·exact hp n q
   ·simp only [List.mem_singleton] at q; subst q; omega
  ·exact walksL_path r p (i + 1) N (by omega) hp x hx
end

theorem fit_walk : Fit Try.prog 40 (orcN fun t => if t.size ≤ 1000000 then some (.it (walkD t)) else none) := by
 intro args d ho
 unfold orcN at ho
 split at ho
 ·rename_i x
  rw [Option.bind_eq_some_iff] at ho
  obtain ⟨t, ht, e⟩ := ho
  split at e
  ·rename_i hle
   cases e
   have hx := toTr_eq ht
   subst hx
   refine ⟨rfl, rfl, fun g vs w hk hv => ?_⟩
   obtain ⟨v, rfl, hv1⟩ := vals_one hv
   refine (walk_any t v w (rep_of_val hk.ok hv1) hle).mono ?_
   rintro e w' ⟨Br, c0, c1, c2, c3, rfl, hBr, hroot, hrep, hb⟩
   have hBr' := (Array.getElem?_eq_some_iff.1 hroot).1
   have hs := hb.size
   have hit : IsIter Try.prog (fun b => g.pr b ∨ (w.heap.size ≤ b ∧ b < w'.heap.size)) (.func (.func 63) #[] #[.pointer (some ⟨Br, 0, none⟩)]) (walkD t) w' := by
    refine ⟨_, _, fun b => (w.heap.size ≤ b ∧ b < w'.heap.size) ∨ b = Br, rfl, ?_, fun b q => ?_, ?_⟩
    ·intro args w
     unfold callFunc
     rw [Sem.run_bind]
     simp [go_sem, Try.func63]
     rfl
    ·rcases q with q | q
     ·exact ⟨.inr q, q.2⟩
     ·subst q; exact ⟨.inr ⟨hBr, hBr'⟩, hBr'⟩
    ·refine Iter.map (walk_iter w' Br (fun b => w.heap.size ≤ b ∧ b < w'.heap.size) t c0 c1 c2 c3 hroot hrep (fun b q => q.2) hle (by have := Tr.depth_le_size t; omega)) _ ?_
     rintro x hx X W args ⟨q1, vp, vn, rfl, q2, q3⟩
     have hpi : ∀ n ∈ x.1, inr .i64 n := fun n hn => by
      have := walkL_path t [] 1000000 hle (fun n q => by cases q) x hx n hn
      simp only [inr, IntKind.min, IntKind.max, IntKind.bits, IntKind.signed]; simp; omega
     refine ⟨q1, rfl, fun j h1 h2 => ?_⟩
     match j with
     | 0 => exact val_of_ints (fun b o q => q) q2 hpi
     | 1 => exact val_of_rep (fun b o q => q) q3
   refine ⟨_, { g with pr := fun b => g.pr b ∨ (w.heap.size ≤ b ∧ b < w'.heap.size), it := fun v' L => g.it v' L ∨ (v' = .func (.func 63) #[] #[.pointer (some ⟨Br, 0, none⟩)] ∧ L = walkD t) }, rfl, hb, ⟨rfl, rfl, rfl, rfl, fun _ _ q => q, fun _ _ q => .inl q, fun _ q => .inl q, fun _ q => q, fun _ _ q => .inl q, fun v L q => ?_⟩, ?_⟩
   ·rcases q with q | ⟨rfl, rfl⟩
    ·exact (hk.it v L q).ext hs (fun b q => ⟨.inl q, hb.block b (hk.pr b q)⟩)
    ·exact hit
   ·exact val_of_R (.it _ _ _ (.inr ⟨rfl, rfl⟩)) rfl
  ·cases e
 ·cases ho

end Go.Proofs.Ytmglacjcefajlaa
