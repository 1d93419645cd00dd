/- Walk: a number pushed onto the path, and taken off again. -/
import Derived.Test.YtkngdmilgfgclaaWalkIt
namespace Go.Proofs.Ytkngdmilgfgclaa
open Go.RowKit Go.Shelf

theorem ownsRow_kept' {w w' : World} {base : Nat} {e : TypeId} {size : Nat} {v : Value} {n : Nat} {xs : List Value} (h : w.ownsRow base e size v n xs) (hk : ∀ g, v.ownBlock = some g → w'.heap[g]? = w.heap[g]?) : w'.ownsRow base e size v n xs := by
  refine ⟨h.1, ?_⟩
  rcases h.2 with h0 | ⟨g, cap, cur, hv, hbg, hgg, r⟩
  · exact .inl h0
  · exact .inr ⟨g, cap, cur, hv, hbg, (hk g (by rw [hv]; rfl)).trans hgg, r⟩

section
variable {by_ bp bv l base : Nat} {O : Nat → Prop} {p : List Int} {W : World}

/-- the path's own array is none of the three boxes, nor a block that is not ints -/
theorem own_ne {W : World} {base : Nat} {vp : Value} {n : Nat} {xs : List Value} {b : Nat} {cs : Array Value} {t : TypeId} (h : W.ownsRow base 3 1 vp n xs) (hb : W.heap[b]? = some (.cells cs t (0, 0))) (ht : t ≠ 3) : vp.ownBlock ≠ some b := by
  rcases h.2 with ⟨rfl, _⟩ | ⟨g, cap, cur, rfl, _, hg, _⟩
  · simp [Value.ownBlock]
  · intro e
    have : g = b := by simpa [Value.ownBlock] using e
    subst this
    rw [hg] at hb
    cases hb
    exact ht rfl

theorem push_it (h : It by_ bp bv l base O p W) {vp : Value} (hbx : W.heap[bp]? = some (.cells #[vp] 33 (0, 0))) (hown : W.ownsRow base 3 1 vp p.length (p.map (Value.int .i64))) (hog : ∀ g, vp.ownBlock = some g → O g)
    {X : Obj} {i : Nat} {v' : Value} {w' : World} (hown' : w'.ownsRow base 3 1 v' (p.length + 1) (p.map (Value.int .i64) ++ [.int .i64 i]))
    (hg : ((W.alloc X).alloc (.cells #[.int .i64 i] 3)).grownBy w' vp.ownBlock) (hat : v'.ownBlock = vp.ownBlock ∨ v'.ownBlock = some (W.heap.size + 2)) (hw' : W.heap.size + 2 ≤ w'.heap.size) :
    It by_ bp bv l base (fun b => O b ∨ v'.ownBlock = some b) (p ++ [(i : Int)]) (w'.setCell ⟨bp, 0, none⟩ v') ∧ Moves O (fun b => O b ∨ v'.ownBlock = some b) W (w'.setCell ⟨bp, 0, none⟩ v') ∧
    Step bp O (fun b => O b ∨ v'.ownBlock = some b) W (w'.setCell ⟨bp, 0, none⟩ v') ∧ (∀ b, b < W.heap.size → b ≠ bp → vp.ownBlock ≠ some b → (w'.setCell ⟨bp, 0, none⟩ v').heap[b]? = W.heap[b]?) ∧
    w'.heap[bp]? = some (.cells #[vp] 33 (0, 0)) ∧ (w'.setCell ⟨bp, 0, none⟩ v').heap[W.heap.size]? = some X := by
  have hlt := h.lt
  have hb1 : ∀ b, b < W.heap.size → ((W.alloc X).alloc (.cells #[.int .i64 i] 3)).heap[b]? = W.heap[b]? := fun b hb => by
    rw [Below.heap_alloc _ _ _ (by simp; omega), Below.heap_alloc _ _ _ hb]
  have hw : ∀ b, b < W.heap.size → vp.ownBlock ≠ some b → w'.heap[b]? = W.heap[b]? := fun b hb hne => by
    rw [hg.block b (by simp; omega) (fun e => hne e.symm), hb1 b hb]
  have hvlt : ∀ g, vp.ownBlock = some g → g < W.heap.size := fun g e => hlt g (hog g e)
  have hbx' : w'.heap[bp]? = some (.cells #[vp] 33 (0, 0)) := (hw bp (hlt _ h.op) (own_ne hown hbx (by decide))).trans hbx
  have hbx2 : (w'.setCell ⟨bp, 0, none⟩ v').heap[bp]? = some (.cells #[v'] 33 (0, 0)) := heap_setCell_same w' bp 0 #[vp] _ v' hbx'
  have hX : ((W.alloc X).alloc (.cells #[.int .i64 i] 3)).heap[W.heap.size]? = some X := heap_alloc2_old W X _
  have hX2 : w'.heap[W.heap.size]? = some X := by
    rw [hg.block _ (by simp only [World.size_alloc]; omega) (fun e => by have := hvlt _ e.symm; omega)]; exact hX
  have hv'ne : v'.ownBlock ≠ some bp := own_ne hown' hbx' (by decide)
  have hother : ∀ b, b ≠ bp → (w'.setCell ⟨bp, 0, none⟩ v').heap[b]? = w'.heap[b]? := fun b hb => heap_setCell_other w' _ b v' hb
  have hfin : ∀ b, b < W.heap.size → b ≠ bp → vp.ownBlock ≠ some b → (w'.setCell ⟨bp, 0, none⟩ v').heap[b]? = W.heap[b]? := fun b hb hne ho => (hother b hne).trans (hw b hb ho)
  have hv'lt := hown'.lt
  have hyb : by_ ≠ bp := fun e => by have h1 := h.hy; rw [e, hbx] at h1; cases h1
  have hvb : bv ≠ bp := fun e => by have h1 := h.hv; rw [e, hbx] at h1; cases h1
  have hsz : (w'.setCell ⟨bp, 0, none⟩ v').heap.size = w'.heap.size := by simp [World.setCell]
  have hlt2 : ∀ b, (O b ∨ v'.ownBlock = some b) → b < (w'.setCell ⟨bp, 0, none⟩ v').heap.size := fun b hb => by
    rw [hsz]
    rcases hb with hb | hb
    · have := hlt b hb; omega
    · exact (hv'lt b hb).2
  have hnew : ∀ b, (O b ∨ v'.ownBlock = some b) → O b ∨ W.heap.size ≤ b := fun b hb => by
    rcases hb with hb | hb
    · exact .inl hb
    · rcases hat with e | e
      · exact .inl (hog b (e ▸ hb))
      · rw [e] at hb; cases hb; exact .inr (by omega)
  refine ⟨⟨(hfin _ (hlt _ h.oy) hyb (own_ne hown h.hy (by decide))).trans h.hy, (hfin _ (hlt _ h.ov) hvb (own_ne hown h.hv (by decide))).trans h.hv, ⟨v', hbx2, ?_, fun g e => .inr e⟩, .inl h.oy, .inl h.op, .inl h.ov, hlt2, h.by0, h.bp0, h.bv0⟩,
    ⟨hg.os, hg.tape, hg.output, by rw [hsz]; omega, fun b hb => .inl hb, hnew, hlt2, fun b hb hn => ?_⟩, ⟨by rw [hsz]; omega, fun b hb => .inl hb, fun b hb hne ho => hfin b (hlt b hb) hne (by rwa [pathOwn_of hbx] at ho), fun g hg' => ?_⟩, hfin, hbx', (hother _ (fun e => by have := hlt _ h.op; omega)).trans hX2⟩
  · have := ownsRow_kept' (w' := w'.setCell ⟨bp, 0, none⟩ v') hown' (fun g e => hother g (fun e' => hv'ne (e' ▸ e)))
    simpa using this
  · have hne : b ≠ bp := fun e => hn (.inl (e ▸ h.op))
    exact hfin b hb hne (fun e => hn (.inl (hog b e)))
  · rw [pathOwn_of hbx2] at hg'
    rw [pathOwn_of hbx]
    rcases hat with e | e
    · exact .inl (e ▸ hg')
    · rw [e] at hg'; cases hg'; exact .inr (by omega)

theorem pop_it {i : Nat} (h : It by_ bp bv l base O (p ++ [(i : Int)]) W) {g cap : Nat} (hbx : W.heap[bp]? = some (.cells #[.slice (some ⟨g, 0, none⟩) (p.length + 1) cap] 33 (0, 0)))
    (hown : W.ownsRow base 3 1 (.slice (some ⟨g, 0, none⟩) (p.length + 1) cap) (p.length + 1) (p.map (Value.int .i64) ++ [.int .i64 i])) (hog : O g) :
    It by_ bp bv l base O p (W.setCell ⟨bp, 0, none⟩ (.slice (some ⟨g, 0, none⟩) p.length cap)) ∧ Moves O O W (W.setCell ⟨bp, 0, none⟩ (.slice (some ⟨g, 0, none⟩) p.length cap)) ∧
    Step bp O O W (W.setCell ⟨bp, 0, none⟩ (.slice (some ⟨g, 0, none⟩) p.length cap)) := by
  have hlt := h.lt
  have hbx2 : (W.setCell ⟨bp, 0, none⟩ (.slice (some ⟨g, 0, none⟩) p.length cap)).heap[bp]? = some (.cells #[.slice (some ⟨g, 0, none⟩) p.length cap] 33 (0, 0)) := heap_setCell_same W bp 0 _ _ _ hbx
  have hother : ∀ b, b ≠ bp → (W.setCell ⟨bp, 0, none⟩ (.slice (some ⟨g, 0, none⟩) p.length cap)).heap[b]? = W.heap[b]? := fun b hb => heap_setCell_other W _ b _ hb
  have hyb : by_ ≠ bp := fun e => by have h1 := h.hy; rw [e, hbx] at h1; cases h1
  have hvb : bv ≠ bp := fun e => by have h1 := h.hv; rw [e, hbx] at h1; cases h1
  have hgb : g ≠ bp := fun e => own_ne hown hbx (by decide) (by rw [← e]; rfl)
  have hm := Moves.setCell hlt (p := ⟨bp, 0, none⟩) h.op (.slice (some ⟨g, 0, none⟩) p.length cap)
  refine ⟨⟨(hother _ hyb).trans h.hy, (hother _ hvb).trans h.hv, ⟨_, hbx2, ?_, fun g' e => by cases e; exact hog⟩, h.oy, h.op, h.ov, hm.lt, h.by0, h.bp0, h.bv0⟩, hm, ⟨hm.size, fun _ h => h, fun b _ hne _ => hother b hne, fun g' hg' => .inl ?_⟩⟩
  · exact ownsRow_kept' (ownsRow_pop (by simp) hown) (fun g' e => by cases e; exact hother g hgb)
  · rw [pathOwn_of hbx2] at hg'
    rw [pathOwn_of hbx]
    exact hg'
end

end Go.Proofs.Ytkngdmilgfgclaa
