/- The run's own memory: boxes, stamped rows; how it grows. Over any program. -/
import Derived.Test.YtkngdmilgfgclaaAmOp5
import Derived.ArgAppend
import Derived.Laws.CopyRow
import Derived.Deep.Upon
import Derived.Great.BuildSlice
import Derived.Great.FillDense
namespace Go.Proofs.Ytkngdmilgfgclaa
open Go.RowKit

structure RW (P : Program) (base : Nat) (w0 : World) (ok0 : Nat → Nat → Prop) (g : Gh) (bx : Nat → Option (List D)) (K lv : Nat → Prop) (w : World) : Prop where
  below : Below base w0 w
  hbs : base ≤ w.heap.size
  okb : ∀ b o, g.ok b o → (b < base ∧ ok0 b o) ∨ (base ≤ b ∧ b < w.heap.size)
  box : ∀ i cs, bx i = some cs → ∃ b vs t, g.β i = some b ∧ w.heap[b]? = some (.cells vs.toArray t (0, 0)) ∧ R w g (.agg cs) vs
  dom : ∀ i b, g.β i = some b → (bx i).isSome = true ∧ base ≤ b ∧ b < w.heap.size ∧ ∀ o, ¬ g.ok b o
  inj : ∀ i j b, g.β i = some b → g.β j = some b → i = j
  row : ∀ s, lv s → ∃ v e len xs, g.ow s = some (v, e) ∧ w.ownsRow base e (P.cellsOf e) v len xs ∧ ∀ b, v.ownBlock = some b → (∀ o, g.ok b o → o < len * P.cellsOf e) ∧ (∀ i, g.β i ≠ some b)
  rinj : ∀ s s' x x' b, lv s → lv s' → g.ow s = some x → g.ow s' = some x' → x.1.ownBlock = some b → x'.1.ownBlock = some b → s = s'
  fresh : ∀ s x, g.ow s = some x → K s

section
variable {P : Program} {base : Nat} {w0 : World} {ok0 : Nat → Nat → Prop} {g : Gh} {bx : Nat → Option (List D)} {K lv : Nat → Prop} {w w' : World}

theorem RW.ok_lt (h : RW P base w0 ok0 g bx K lv w) {b o : Nat} (hk : g.ok b o) : b < w.heap.size := by
  have := h.hbs
  rcases h.okb b o hk with q | q <;> omega

theorem RW.boxesAt (h : RW P base w0 ok0 g bx K lv w) : BoxesAt w g bx := by
  intro i cs b h1 h2
  obtain ⟨b', vs, t, q1, q2, q3⟩ := h.box i cs h1
  rw [h2] at q1
  cases q1
  exact ⟨vs, t, q2, q3⟩

theorem grown_of_below {a b : World} (h : Below a.heap.size a b) : a.grownBy b none := ⟨h.os, h.tape, h.output, h.size, fun i hi _ => h.block i hi⟩

/-- new blocks have come; some of their cells are to stay -/
theorem RW.grow (h : RW P base w0 ok0 g bx K lv w) (hb : Below w.heap.size w w') {ok' : Nat → Nat → Prop} (h1 : ∀ b o, g.ok b o → ok' b o) (h2 : ∀ b o, ok' b o → g.ok b o ∨ (w.heap.size ≤ b ∧ b < w'.heap.size)) :
    RW P base w0 ok0 { g with ok := ok' } bx K lv w' ∧ Ext g w { g with ok := ok' } w' := by
  have hs := hb.size
  have hbs := h.hbs
  have he : Ext g w { g with ok := ok' } w' := ⟨h1, fun _ _ q => q, fun _ _ q => q, fun b o q => hb.cell (p := ⟨b, o, none⟩) (h.ok_lt q)⟩
  refine ⟨⟨h.below.trans (hb.mono hbs), by omega, ?_, ?_, ?_, h.inj, ?_, h.rinj, h.fresh⟩, he⟩
  · intro b o q
    rcases h2 b o q with q | q
    · rcases h.okb b o q with q | q
      · exact .inl q
      · exact .inr ⟨q.1, by omega⟩
    · exact .inr ⟨by omega, q.2⟩
  · intro i cs q
    obtain ⟨b, vs, t, q1, q2, q3⟩ := h.box i cs q
    exact ⟨b, vs, t, q1, (hb.block b (h.dom i b q1).2.2.1).trans q2, q3.ext he⟩
  · intro i b q
    obtain ⟨q1, q2, q3, q4⟩ := h.dom i b q
    refine ⟨q1, q2, by omega, fun o q5 => ?_⟩
    rcases h2 b o q5 with q6 | q6
    · exact q4 o q6
    · omega
  · intro s hs'
    obtain ⟨v, e, len, xs, q1, q2, q3⟩ := h.row s hs'
    refine ⟨v, e, len, xs, q1, q2.kept (grown_of_below hb) (by cases v.ownBlock <;> simp), fun b hv => ⟨fun o ho => ?_, (q3 b hv).2⟩⟩
    rcases h2 b o ho with q6 | q6
    · exact (q3 b hv).1 o q6
    · have := (q2.lt b hv).2; omega

/-- a block that nobody knows becomes a box -/
theorem RW.addBox (h : RW P base w0 ok0 g bx K lv w) {i b : Nat} {cs : List D} {vs : List Value} {t : TypeId} (hb1 : base ≤ b) (hb2 : b < w.heap.size) (hno : ∀ o, ¬ g.ok b o) (hnb : ∀ j, g.β j ≠ some b)
    (hnr : ∀ s x, lv s → g.ow s = some x → x.1.ownBlock ≠ some b) (hi : bx i = none) (hh : w.heap[b]? = some (.cells vs.toArray t (0, 0))) (hr : R w g (.agg cs) vs) :
    RW P base w0 ok0 { g with β := fun j => if j = i then some b else g.β j } (fun j => if j = i then some cs else bx j) K lv w ∧ Ext g w { g with β := fun j => if j = i then some b else g.β j } w := by
  have hβ : g.β i = none := by
    cases hq : g.β i with
    | none => rfl
    | some c => have := (h.dom i c hq).1; rw [hi] at this; cases this
  have he : Ext g w { g with β := fun j => if j = i then some b else g.β j } w := by
    refine ⟨fun _ _ q => q, fun j c q => ?_, fun _ _ q => q, fun _ _ _ => rfl⟩
    show (if j = i then some b else g.β j) = some c
    rw [if_neg (fun e => by rw [e, hβ] at q; cases q)]; exact q
  refine ⟨⟨h.below, h.hbs, h.okb, ?_, ?_, ?_, ?_, h.rinj, h.fresh⟩, he⟩
  · intro j ds q
    by_cases hj : j = i
    · rw [if_pos hj] at q
      cases q
      exact ⟨b, vs, t, by show (if j = i then some b else g.β j) = some b; rw [if_pos hj], hh, hr.ext he⟩
    · rw [if_neg hj] at q
      obtain ⟨c, us, t', q1, q2, q3⟩ := h.box j ds q
      exact ⟨c, us, t', by show (if j = i then some b else g.β j) = some c; rw [if_neg hj]; exact q1, q2, q3.ext he⟩
  · intro j c q
    dsimp only at q ⊢
    by_cases hj : j = i
    · rw [if_pos hj] at q ⊢
      cases q
      exact ⟨rfl, hb1, hb2, hno⟩
    · rw [if_neg hj] at q ⊢
      exact h.dom j c q
  · intro j k c q1 q2
    dsimp only at q1 q2
    by_cases hj : j = i <;> by_cases hk : k = i
    · omega
    · rw [if_pos hj] at q1; rw [if_neg hk] at q2; cases q1; exact absurd q2 (hnb k)
    · rw [if_neg hj] at q1; rw [if_pos hk] at q2; cases q2; exact absurd q1 (hnb j)
    · rw [if_neg hj] at q1; rw [if_neg hk] at q2; exact h.inj j k c q1 q2
  · intro s hs
    obtain ⟨v, e, len, xs, q1, q2, q3⟩ := h.row s hs
    refine ⟨v, e, len, xs, q1, q2, fun c hc => ⟨(q3 c hc).1, fun j q => ?_⟩⟩
    dsimp only at q
    by_cases hj : j = i
    · rw [if_pos hj] at q; cases q; exact hnr s _ hs q1 hc
    · rw [if_neg hj] at q; exact (q3 c hc).2 j q

/-- a row of the run's own gets a stamp -/
theorem RW.addRow (h : RW P base w0 ok0 g bx K lv w) {s : Nat} {v : Value} {e : TypeId} {len : Nat} {xs : List Value} (hs : ¬ K s) (ho : w.ownsRow base e (P.cellsOf e) v len xs)
    (hk : ∀ b, v.ownBlock = some b → (∀ o, g.ok b o → o < len * P.cellsOf e) ∧ (∀ i, g.β i ≠ some b) ∧ ∀ s' x, lv s' → g.ow s' = some x → x.1.ownBlock ≠ some b) :
    RW P base w0 ok0 { g with ow := fun j => if j = s then some (v, e) else g.ow j } bx (fun j => K j ∨ j = s) (fun j => lv j ∨ j = s) w ∧ Ext g w { g with ow := fun j => if j = s then some (v, e) else g.ow j } w := by
  have hn : ∀ x, g.ow s ≠ some x := fun x q => hs (h.fresh s x q)
  have hl : ∀ j, lv j → j ≠ s := fun j q e' => by
    obtain ⟨v, e, _, _, q1, _⟩ := h.row j q
    rw [e'] at q1; exact hn _ q1
  have he : Ext g w { g with ow := fun j => if j = s then some (v, e) else g.ow j } w := by
    refine ⟨fun _ _ q => q, fun _ _ q => q, fun j x q => ?_, fun _ _ _ => rfl⟩
    show (if j = s then some (v, e) else g.ow j) = some x
    rw [if_neg (fun e => by rw [e] at q; exact hn x q)]; exact q
  refine ⟨⟨h.below, h.hbs, h.okb, ?_, h.dom, h.inj, ?_, ?_, ?_⟩, he⟩
  · intro i cs q
    obtain ⟨b, vs, t, q1, q2, q3⟩ := h.box i cs q
    exact ⟨b, vs, t, q1, q2, q3.ext he⟩
  · intro j hj
    by_cases e' : j = s
    · subst e'
      refine ⟨v, e, len, xs, by show (if j = j then some (v, e) else g.ow j) = _; rw [if_pos rfl], ho, fun b hb => ⟨(hk b hb).1, (hk b hb).2.1⟩⟩
    · obtain ⟨v', e1, len', xs', q1, q2, q3⟩ := h.row j (hj.resolve_right e')
      exact ⟨v', e1, len', xs', by show (if j = s then some (v, e) else g.ow j) = _; rw [if_neg e']; exact q1, q2, q3⟩
  · intro j j' x x' b hj hj' q q' hb hb'
    dsimp only at q q'
    by_cases e1 : j = s <;> by_cases e2 : j' = s
    · omega
    · rw [if_pos e1] at q; rw [if_neg e2] at q'; cases q
      exact absurd hb' ((hk b hb).2.2 j' x' (hj'.resolve_right e2) q')
    · rw [if_neg e1] at q; rw [if_pos e2] at q'; cases q'
      exact absurd hb ((hk b hb').2.2 j x (hj.resolve_right e1) q)
    · rw [if_neg e1] at q; rw [if_neg e2] at q'
      exact h.rinj j j' x x' b (hj.resolve_right e1) (hj'.resolve_right e2) q q' hb hb'
  · intro j x q
    dsimp only at q
    by_cases e' : j = s
    · exact .inr e'
    · rw [if_neg e'] at q; exact .inl (h.fresh j x q)

/-- a stamp is given up -/
theorem RW.drop (h : RW P base w0 ok0 g bx K lv w) {lv' : Nat → Prop} (hl : ∀ s, lv' s → lv s) : RW P base w0 ok0 g bx K lv' w :=
  ⟨h.below, h.hbs, h.okb, h.box, h.dom, h.inj, fun s q => h.row s (hl s q), fun s s' x x' b q q' => h.rinj s s' x x' b (hl s q) (hl s' q'), h.fresh⟩
theorem RW.more (h : RW P base w0 ok0 g bx K lv w) {K' : Nat → Prop} (hk : ∀ s, K s → K' s) : RW P base w0 ok0 g bx K' lv w :=
  ⟨h.below, h.hbs, h.okb, h.box, h.dom, h.inj, h.row, h.rinj, fun s x q => hk s (h.fresh s x q)⟩
theorem RW.same_bx (h : RW P base w0 ok0 g bx K lv w) {bx' : Nat → Option (List D)} (hk : ∀ i, bx' i = bx i) : RW P base w0 ok0 g bx' K lv w := by
  have : bx' = bx := funext hk
  rw [this]; exact h

/-- a box is written -/
theorem RW.put (h : RW P base w0 ok0 g bx K lv w) {i b : Nat} {cs : List D} {vs : List Value} {t : TypeId} (hi : g.β i = some b) (hh : w'.heap[b]? = some (.cells vs.toArray t (0, 0))) (hs : w'.heap.size = w.heap.size) (hot : ∀ c, c ≠ b → w'.heap[c]? = w.heap[c]?)
    (hos : w'.os = w.os ∧ w'.tape = w.tape ∧ w'.output = w.output) (hr : R w g (.agg cs) vs) :
    RW P base w0 ok0 g (fun j => if j = i then some cs else bx j) K lv w' ∧ Ext g w g w' := by
  obtain ⟨d1, d2, d3, d4⟩ := h.dom i b hi
  have he : Ext g w g w' := ⟨fun _ _ q => q, fun _ _ q => q, fun _ _ q => q, fun c o q => World.cell?_of_block (hot c (fun e => by rw [e] at q; exact d4 o q))⟩
  have hb : Below base w w' := ⟨hos.1, hos.2.1, hos.2.2, by omega, fun k hk => hot k (by omega)⟩
  refine ⟨⟨h.below.trans hb, by rw [hs]; exact h.hbs, by rw [hs]; exact h.okb, ?_, ?_, h.inj, ?_, h.rinj, h.fresh⟩, he⟩
  · intro j ds q
    by_cases hj : j = i
    · rw [if_pos hj] at q
      cases q
      subst hj
      exact ⟨b, vs, t, hi, hh, hr.ext he⟩
    · rw [if_neg hj] at q
      obtain ⟨c, us, t', q1, q2, q3⟩ := h.box j ds q
      refine ⟨c, us, t', q1, (hot c (fun e => ?_)).trans q2, q3.ext he⟩
      rw [e] at q1
      exact hj (h.inj j i b q1 hi)
  · intro j c q
    obtain ⟨q1, q2, q3, q4⟩ := h.dom j c q
    refine ⟨?_, q2, by omega, q4⟩
    by_cases hj : j = i
    · rw [if_pos hj]; rfl
    · rw [if_neg hj]; exact q1
  · intro s hs'
    obtain ⟨v, e, len, xs, q1, q2, q3⟩ := h.row s hs'
    refine ⟨v, e, len, xs, q1, q2.kept ⟨hos.1, hos.2.1, hos.2.2, by omega, fun k _ hk => hot k (fun e => hk (by rw [e]))⟩ (row := some b) ?_, q3⟩
    cases hv : v.ownBlock with
    | none => exact .inl rfl
    | some c => exact .inr (fun e => by cases e; exact (q3 b hv).2 i hi)
end

end Go.Proofs.Ytkngdmilgfgclaa
