/- The run's own memory: boxes, stamped rows, protected blocks, iterators; how it grows. Over any program. -/
import Derived.Test.YtjikokmhknnnoaaAmOp5
import Derived.Test.YtjikokmhknnnoaaIter
import Derived.ArgAppend
import Derived.Laws.CopyRow
import Derived.Deep.Upon
import Derived.Great.BuildSlice
import Derived.Great.FillDense
namespace Go.Proofs.Ytjikokmhknnnoaa
open Go.RowKit

/-- values that read as data -/
def vals (w : World) (g : Gh) (ds : List D) (vs : List Value) : Prop := ds.length = vs.length ∧ ∀ (j : Nat) (h : j < ds.length) (h' : j < vs.length), val w g ds[j] vs[j]
/-- what is known of cells alone -/
def okGh (ok : Nat → Nat → Prop) : Gh := ⟨ok, fun _ => none, fun _ => none, fun _ => False, fun _ _ => False, fun _ => false, fun _ => False⟩
/-- what a round is handed: data in the blocks X -/
def encD (xs : List D) (X : Nat → Prop) (W : World) (args : Array Value) : Prop :=
  (∀ b, X b → b < W.heap.size) ∧ vals W (okGh fun b _ => X b) xs args.toList
/-- a value that is an iterator over data: of its blocks, those that it finds there stay whole -/
def IsIter (P : Program) (pr : Nat → Prop) (v : Value) (L : List (List D)) (w : World) : Prop :=
  ∃ gf lb F, v = .func (.func gf) #[] lb ∧ (∀ args w, (callFunc gf args).run P w = .ok (.enter gf args) w) ∧ (∀ b, F b → pr b ∧ b < w.heap.size) ∧ Iter P gf lb encD L F w
theorem IsIter.ext {P : Program} {pr pr' : Nat → Prop} {v : Value} {L : List (List D)} {w w' : World} (h : IsIter P pr v L w) (hs : w.heap.size ≤ w'.heap.size) (hp : ∀ b, pr b → pr' b ∧ w'.heap[b]? = w.heap[b]?) : IsIter P pr' v L w' := by
  obtain ⟨gf, lb, F, h1, h2, h3, h4⟩ := h
  refine ⟨gf, lb, F, h1, h2, fun b hb => ⟨(hp b (h3 b hb).1).1, Nat.lt_of_lt_of_le (h3 b hb).2 hs⟩, ?_⟩
  intro n l J Jx W q1 q2
  exact h4 n l J Jx W (Nat.le_trans hs q1) (fun b hb => (q2 b hb).trans (hp b (h3 b hb).1).2)

structure RW (P : Program) (base : Nat) (w0 : World) (ok0 : Gh) (g : Gh) (bx : Nat → Option (List D)) (K lv : Nat → Prop) (w : World) : Prop where
  below : Below base w0 w
  hbs : base ≤ w.heap.size
  okb : ∀ b o, g.ok b o → (b < base ∧ ok0.ok b o) ∨ (base ≤ b ∧ b < w.heap.size)
  box : ∀ i cs, bx i = some cs → ∃ b, g.β i = some b ∧ BoxIn w g b (g.mp i) cs
  dom : ∀ i b, g.β i = some b → (bx i).isSome = true ∧ base ≤ b ∧ b < w.heap.size ∧ ∀ o, ¬ g.ok b o
  inj : ∀ i j b, g.β i = some b → g.β j = some b → i = j
  row : ∀ s, lv s → ∃ v e len xs, g.ow s = some (v, e) ∧ w.ownsRow base e (P.cellsOf e) v len xs ∧ ∀ b, v.ownBlock = some b → (∀ o, g.ok b o → o < len * P.cellsOf e) ∧ (∀ i, g.β i ≠ some b)
  rinj : ∀ s s' x x' b, lv s → lv s' → g.ow s = some x → g.ow s' = some x' → x.1.ownBlock = some b → x'.1.ownBlock = some b → s = s'
  fresh : ∀ s x, g.ow s = some x → K s
  prot : ∀ b, g.pr b → b < w.heap.size ∧ (∀ i, g.β i ≠ some b) ∧ ∀ s x, lv s → g.ow s = some x → x.1.ownBlock ≠ some b
  iter : ∀ v L, g.it v L → IsIter P g.pr v L w
  kept : ∀ b, g.kp b → b < w.heap.size ∧ (∀ i, g.β i ≠ some b) ∧ ∀ s x, lv s → g.ow s = some x → x.1.ownBlock ≠ some b
  prb : ∀ b, b < base → g.pr b → ok0.pr b

section
variable {P : Program} {base : Nat} {w0 : World} {ok0 : Gh} {g : Gh} {bx : Nat → Option (List D)} {K lv : Nat → Prop} {w w' : World}

theorem RW.ok_lt (h : RW P base w0 ok0 g bx K lv w) {b o : Nat} (hk : g.ok b o) : b < w.heap.size := by
  have := h.hbs
  rcases h.okb b o hk with q | q <;> omega

theorem RW.boxesAt (h : RW P base w0 ok0 g bx K lv w) : BoxesAt w g bx := by
  intro i cs b h1 h2
  obtain ⟨b', q1, q2⟩ := h.box i cs h1
  rw [h2] at q1
  cases q1
  exact q2

theorem grown_of_below {a b : World} (h : Below a.heap.size a b) : a.grownBy b none := ⟨h.os, h.tape, h.output, h.size, fun i hi _ => h.block i hi⟩

/-- more is known: of old cells and blocks nothing but what was known -/
structure Grown (P : Program) (g : Gh) (w : World) (g' : Gh) (w' : World) : Prop where
  β : g'.β = g.β
  ow : g'.ow = g.ow
  mp : g'.mp = g.mp
  kp : g'.kp = g.kp
  ok1 : ∀ b o, g.ok b o → g'.ok b o
  ok2 : ∀ b o, g'.ok b o → g.ok b o ∨ (w.heap.size ≤ b ∧ b < w'.heap.size)
  pr1 : ∀ b, g.pr b → g'.pr b
  pr2 : ∀ b, g'.pr b → g.pr b ∨ (w.heap.size ≤ b ∧ b < w'.heap.size)
  it1 : ∀ v L, g.it v L → g'.it v L
  it2 : ∀ v L, g'.it v L → IsIter P g'.pr v L w'
theorem Grown.of_ok {ok' : Nat → Nat → Prop} (hb : Below w.heap.size w w') (hp : ∀ b, g.pr b → b < w.heap.size) (hi : ∀ v L, g.it v L → IsIter P g.pr v L w) (h1 : ∀ b o, g.ok b o → ok' b o) (h2 : ∀ b o, ok' b o → g.ok b o ∨ (w.heap.size ≤ b ∧ b < w'.heap.size)) : Grown P g w { g with ok := ok' } w' :=
  ⟨rfl, rfl, rfl, rfl, h1, h2, fun _ q => q, fun _ q => .inl q, fun _ _ q => q, fun v L q => (hi v L q).ext hb.size (fun b hb' => ⟨hb', hb.block b (hp b hb')⟩)⟩

/-- new blocks have come; some of their cells are to stay -/
theorem RW.grows (h : RW P base w0 ok0 g bx K lv w) (hb : Below w.heap.size w w') {g' : Gh} (hg : Grown P g w g' w') : RW P base w0 ok0 g' bx K lv w' ∧ Ext g w g' w' := by
  have hs := hb.size
  have hbs := h.hbs
  have he : Ext g w g' w' := ⟨hg.ok1, fun _ _ q => by rw [hg.β]; exact q, fun _ _ q => by rw [hg.ow]; exact q, fun b o q => hb.cell (p := ⟨b, o, none⟩) (h.ok_lt q), fun b q => ⟨hg.pr1 b q, hb.block b (h.prot b q).1⟩, hg.it1, fun i b q => (by rw [hg.mp]), fun b q => ⟨by rw [hg.kp]; exact q, hb.block b (h.kept b q).1, fun o q' => (hg.ok2 b o q').resolve_right (fun q'' => by have := (h.kept b q).1; omega), fun q' => (hg.pr2 b q').resolve_right (fun q'' => by have := (h.kept b q).1; omega)⟩, hb.size⟩
  refine ⟨⟨h.below.trans (hb.mono hbs), by omega, ?_, ?_, ?_, by rw [hg.β]; exact h.inj, ?_, by rw [hg.ow]; exact h.rinj, by rw [hg.ow]; exact h.fresh, ?_, hg.it2, fun b q => by rw [hg.kp] at q; rw [hg.β, hg.ow]; obtain ⟨q1, q2, q3⟩ := h.kept b q; exact ⟨by omega, q2, q3⟩, fun b hb' q => (hg.pr2 b q).elim (h.prb b hb') (fun q => by omega)⟩, he⟩
  · intro b o q
    rcases hg.ok2 b o q with q | q
    · rcases h.okb b o q with q | q
      · exact .inl q
      · exact .inr ⟨q.1, by omega⟩
    · exact .inr ⟨by omega, q.2⟩
  · intro i cs q
    obtain ⟨b, q1, q2⟩ := h.box i cs q
    refine ⟨b, by rw [hg.β]; exact q1, ?_⟩
    rw [hg.mp]
    exact q2.ext he (hb.block b (h.dom i b q1).2.2.1)
  · intro i b q
    rw [hg.β] at q
    obtain ⟨q1, q2, q3, q4⟩ := h.dom i b q
    refine ⟨q1, q2, by omega, fun o q5 => ?_⟩
    rcases hg.ok2 b o q5 with q6 | q6
    · exact q4 o q6
    · omega
  · intro s hs'
    obtain ⟨v, e, len, xs, q1, q2, q3⟩ := h.row s hs'
    refine ⟨v, e, len, xs, by rw [hg.ow]; exact q1, q2.kept (grown_of_below hb) (by cases v.ownBlock <;> simp), fun b hv => ⟨fun o ho => ?_, by rw [hg.β]; exact (q3 b hv).2⟩⟩
    rcases hg.ok2 b o ho with q6 | q6
    · exact (q3 b hv).1 o q6
    · have := (q2.lt b hv).2; omega
  · intro b q
    rcases hg.pr2 b q with q | q
    · obtain ⟨q1, q2, q3⟩ := h.prot b q
      exact ⟨by omega, by rw [hg.β]; exact q2, by rw [hg.ow]; exact q3⟩
    · refine ⟨q.2, fun i q' => ?_, fun s x hs' hx q' => ?_⟩
      · rw [hg.β] at q'
        have := (h.dom i b q').2.2.1; omega
      · rw [hg.ow] at hx
        obtain ⟨v, e, len, xs, r1, r2, _⟩ := h.row s hs'
        rw [hx] at r1
        cases r1
        have := (r2.lt b q').2; omega
theorem RW.grow (h : RW P base w0 ok0 g bx K lv w) (hb : Below w.heap.size w w') {ok' : Nat → Nat → Prop} (h1 : ∀ b o, g.ok b o → ok' b o) (h2 : ∀ b o, ok' b o → g.ok b o ∨ (w.heap.size ≤ b ∧ b < w'.heap.size)) :
    RW P base w0 ok0 { g with ok := ok' } bx K lv w' ∧ Ext g w { g with ok := ok' } w' :=
  h.grows hb (Grown.of_ok hb (fun b q => (h.prot b q).1) h.iter h1 h2)

/-- a block that nobody knows becomes a box -/
theorem RW.addBox (h : RW P base w0 ok0 g bx K lv w) {i b : Nat} {cs : List D} {m : Bool} (hb1 : base ≤ b) (hb2 : b < w.heap.size) (hno : ∀ o, ¬ g.ok b o) (hnp : ¬ g.pr b) (hnk : ¬ g.kp b) (hnb : ∀ j, g.β j ≠ some b)
    (hnr : ∀ s x, lv s → g.ow s = some x → x.1.ownBlock ≠ some b) (hi : bx i = none) (hr : BoxIn w g b m cs) :
    RW P base w0 ok0 { g with β := fun j => if j = i then some b else g.β j, mp := fun j => if j = i then m else g.mp j } (fun j => if j = i then some cs else bx j) K lv w ∧ Ext g w { g with β := fun j => if j = i then some b else g.β j, mp := fun j => if j = i then m else g.mp j } w := by
  have hβ : g.β i = none := by
    cases hq : g.β i with
    | none => rfl
    | some c => have := (h.dom i c hq).1; rw [hi] at this; cases this
  have he : Ext g w { g with β := fun j => if j = i then some b else g.β j, mp := fun j => if j = i then m else g.mp j } w := by
    refine ⟨fun _ _ q => q, fun j c q => ?_, fun _ _ q => q, fun _ _ _ => rfl, fun _ q => ⟨q, rfl⟩, fun _ _ q => q, fun j c q => ?_, fun _ q => ⟨q, rfl, fun _ q => q, fun q => q⟩, Nat.le_refl _⟩
    · show (if j = i then some b else g.β j) = some c
      rw [if_neg (fun e => by rw [e, hβ] at q; cases q)]; exact q
    · show (if j = i then m else g.mp j) = g.mp j
      rw [if_neg (fun e => by rw [e, hβ] at q; cases q)]
  refine ⟨⟨h.below, h.hbs, h.okb, ?_, ?_, ?_, ?_, h.rinj, h.fresh, ?_, h.iter, ?_, h.prb⟩, he⟩
  · intro j ds q
    by_cases hj : j = i
    · rw [if_pos hj] at q
      cases q
      refine ⟨b, by show (if j = i then some b else g.β j) = some b; rw [if_pos hj], ?_⟩
      show BoxIn w _ b (if j = i then m else g.mp j) cs
      rw [if_pos hj]
      exact hr.ext he rfl
    · rw [if_neg hj] at q
      obtain ⟨c, q1, q2⟩ := h.box j ds q
      refine ⟨c, by show (if j = i then some b else g.β j) = some c; rw [if_neg hj]; exact q1, ?_⟩
      show BoxIn w _ c (if j = i then m else g.mp j) ds
      rw [if_neg hj]
      exact q2.ext he rfl
  · intro j c q
    dsimp only at q ⊢
    by_cases hj : j = i
    · rw [if_pos hj] at q ⊢
      cases q
      exact ⟨rfl, hb1, hb2, hno⟩
    · rw [if_neg hj] at q ⊢
      exact h.dom j c q
  · intro j k c q1 q2
    dsimp only at q1 q2
    by_cases hj : j = i <;> by_cases hk : k = i
    · omega
    · rw [if_pos hj] at q1; rw [if_neg hk] at q2; cases q1; exact absurd q2 (hnb k)
    · rw [if_neg hj] at q1; rw [if_pos hk] at q2; cases q2; exact absurd q1 (hnb j)
    · rw [if_neg hj] at q1; rw [if_neg hk] at q2; exact h.inj j k c q1 q2
  · intro s hs
    obtain ⟨v, e, len, xs, q1, q2, q3⟩ := h.row s hs
    refine ⟨v, e, len, xs, q1, q2, fun c hc => ⟨(q3 c hc).1, fun j q => ?_⟩⟩
    dsimp only at q
    by_cases hj : j = i
    · rw [if_pos hj] at q; cases q; exact hnr s _ hs q1 hc
    · rw [if_neg hj] at q; exact (q3 c hc).2 j q
  · intro c q
    obtain ⟨q1, q2, q3⟩ := h.prot c q
    refine ⟨q1, fun j q' => ?_, q3⟩
    dsimp only at q'
    by_cases hj : j = i
    · rw [if_pos hj] at q'; cases q'; exact hnp q
    · rw [if_neg hj] at q'; exact q2 j q'
  · intro c q
    obtain ⟨q1, q2, q3⟩ := h.kept c q
    refine ⟨q1, fun j q' => ?_, q3⟩
    dsimp only at q'
    by_cases hj : j = i
    · rw [if_pos hj] at q'; cases q'; exact hnk q
    · rw [if_neg hj] at q'; exact q2 j q'

/-- a row of the run's own gets a stamp -/
theorem RW.addRow (h : RW P base w0 ok0 g bx K lv w) {s : Nat} {v : Value} {e : TypeId} {len : Nat} {xs : List Value} (hs : ¬ K s) (ho : w.ownsRow base e (P.cellsOf e) v len xs)
    (hk : ∀ b, v.ownBlock = some b → (∀ o, g.ok b o → o < len * P.cellsOf e) ∧ (∀ i, g.β i ≠ some b) ∧ (∀ s' x, lv s' → g.ow s' = some x → x.1.ownBlock ≠ some b) ∧ ¬ g.pr b ∧ ¬ g.kp b) :
    RW P base w0 ok0 { g with ow := fun j => if j = s then some (v, e) else g.ow j } bx (fun j => K j ∨ j = s) (fun j => lv j ∨ j = s) w ∧ Ext g w { g with ow := fun j => if j = s then some (v, e) else g.ow j } w := by
  have hn : ∀ x, g.ow s ≠ some x := fun x q => hs (h.fresh s x q)
  have hl : ∀ j, lv j → j ≠ s := fun j q e' => by
    obtain ⟨v, e, _, _, q1, _⟩ := h.row j q
    rw [e'] at q1; exact hn _ q1
  have he : Ext g w { g with ow := fun j => if j = s then some (v, e) else g.ow j } w := by
    refine ⟨fun _ _ q => q, fun _ _ q => q, fun j x q => ?_, fun _ _ _ => rfl, fun _ q => ⟨q, rfl⟩, fun _ _ q => q, fun _ _ _ => rfl, fun _ q => ⟨q, rfl, fun _ q => q, fun q => q⟩, Nat.le_refl _⟩
    show (if j = s then some (v, e) else g.ow j) = some x
    rw [if_neg (fun e => by rw [e] at q; exact hn x q)]; exact q
  refine ⟨⟨h.below, h.hbs, h.okb, ?_, h.dom, h.inj, ?_, ?_, ?_, ?_, h.iter, ?_, h.prb⟩, he⟩
  · intro i cs q
    obtain ⟨b, q1, q2⟩ := h.box i cs q
    exact ⟨b, q1, q2.ext he rfl⟩
  · intro j hj
    by_cases e' : j = s
    · subst e'
      refine ⟨v, e, len, xs, by show (if j = j then some (v, e) else g.ow j) = _; rw [if_pos rfl], ho, fun b hb => ⟨(hk b hb).1, (hk b hb).2.1⟩⟩
    · obtain ⟨v', e1, len', xs', q1, q2, q3⟩ := h.row j (hj.resolve_right e')
      exact ⟨v', e1, len', xs', by show (if j = s then some (v, e) else g.ow j) = _; rw [if_neg e']; exact q1, q2, q3⟩
  · intro j j' x x' b hj hj' q q' hb hb'
    dsimp only at q q'
    by_cases e1 : j = s <;> by_cases e2 : j' = s
    · omega
    · rw [if_pos e1] at q; rw [if_neg e2] at q'; cases q
      exact absurd hb' ((hk b hb).2.2.1 j' x' (hj'.resolve_right e2) q')
    · rw [if_neg e1] at q; rw [if_pos e2] at q'; cases q'
      exact absurd hb ((hk b hb').2.2.1 j x (hj.resolve_right e1) q)
    · rw [if_neg e1] at q; rw [if_neg e2] at q'
      exact h.rinj j j' x x' b (hj.resolve_right e1) (hj'.resolve_right e2) q q' hb hb'
  · intro j x q
    dsimp only at q
    by_cases e' : j = s
    · exact .inr e'
    · rw [if_neg e'] at q; exact .inl (h.fresh j x q)
  · intro b q
    obtain ⟨q1, q2, q3⟩ := h.prot b q
    refine ⟨q1, q2, fun j x hj hx hb => ?_⟩
    dsimp only at hx
    by_cases e' : j = s
    · rw [if_pos e'] at hx; cases hx; exact (hk b hb).2.2.2.1 q
    · rw [if_neg e'] at hx; exact q3 j x (hj.resolve_right e') hx hb
  · intro b q
    obtain ⟨q1, q2, q3⟩ := h.kept b q
    refine ⟨q1, q2, fun j x hj hx hb => ?_⟩
    dsimp only at hx
    by_cases e' : j = s
    · rw [if_pos e'] at hx; cases hx; exact (hk b hb).2.2.2.2 q
    · rw [if_neg e'] at hx; exact q3 j x (hj.resolve_right e') hx hb

/-- a stamp is given up -/
theorem RW.drop (h : RW P base w0 ok0 g bx K lv w) {lv' : Nat → Prop} (hl : ∀ s, lv' s → lv s) : RW P base w0 ok0 g bx K lv' w :=
  ⟨h.below, h.hbs, h.okb, h.box, h.dom, h.inj, fun s q => h.row s (hl s q), fun s s' x x' b q q' => h.rinj s s' x x' b (hl s q) (hl s' q'), h.fresh, fun b q => ⟨(h.prot b q).1, (h.prot b q).2.1, fun s x hs => (h.prot b q).2.2 s x (hl s hs)⟩, h.iter, fun b q => ⟨(h.kept b q).1, (h.kept b q).2.1, fun s x hs => (h.kept b q).2.2 s x (hl s hs)⟩, h.prb⟩
theorem RW.more (h : RW P base w0 ok0 g bx K lv w) {K' : Nat → Prop} (hk : ∀ s, K s → K' s) : RW P base w0 ok0 g bx K' lv w :=
  ⟨h.below, h.hbs, h.okb, h.box, h.dom, h.inj, h.row, h.rinj, fun s x q => hk s (h.fresh s x q), h.prot, h.iter, h.kept, h.prb⟩
theorem RW.same_bx (h : RW P base w0 ok0 g bx K lv w) {bx' : Nat → Option (List D)} (hk : ∀ i, bx' i = bx i) : RW P base w0 ok0 g bx' K lv w := by
  have : bx' = bx := funext hk
  rw [this]; exact h

/-- a box is written -/
theorem RW.put (h : RW P base w0 ok0 g bx K lv w) {i b : Nat} {cs : List D} (hi : g.β i = some b) (hs : w'.heap.size = w.heap.size) (hot : ∀ c, c ≠ b → w'.heap[c]? = w.heap[c]?)
    (hos : w'.os = w.os ∧ w'.tape = w.tape ∧ w'.output = w.output) (hr : Ext g w g w' → BoxIn w' g b (g.mp i) cs) :
    RW P base w0 ok0 g (fun j => if j = i then some cs else bx j) K lv w' ∧ Ext g w g w' := by
  obtain ⟨d1, d2, d3, d4⟩ := h.dom i b hi
  have hpr : ∀ c, g.pr c → w'.heap[c]? = w.heap[c]? := fun c q => hot c (fun e => by rw [e] at q; exact (h.prot b q).2.1 i hi)
  have hkp : ∀ c, g.kp c → w'.heap[c]? = w.heap[c]? := fun c q => hot c (fun e => by rw [e] at q; exact (h.kept b q).2.1 i hi)
  have he : Ext g w g w' := ⟨fun _ _ q => q, fun _ _ q => q, fun _ _ q => q, fun c o q => World.cell?_of_block (hot c (fun e => by rw [e] at q; exact d4 o q)), fun c q => ⟨q, hpr c q⟩, fun _ _ q => q, fun _ _ _ => rfl, fun c q => ⟨q, hkp c q, fun _ q => q, fun q => q⟩, Nat.le_of_eq hs.symm⟩
  have hb : Below base w w' := ⟨hos.1, hos.2.1, hos.2.2, by omega, fun k hk => hot k (by omega)⟩
  refine ⟨⟨h.below.trans hb, by rw [hs]; exact h.hbs, by rw [hs]; exact h.okb, ?_, ?_, h.inj, ?_, h.rinj, h.fresh, fun c q => ⟨by rw [hs]; exact (h.prot c q).1, (h.prot c q).2⟩, fun v L q => (h.iter v L q).ext (by omega) (fun c q => ⟨q, hpr c q⟩), fun c q => ⟨by rw [hs]; exact (h.kept c q).1, (h.kept c q).2⟩, h.prb⟩, he⟩
  · intro j ds q
    by_cases hj : j = i
    · rw [if_pos hj] at q
      cases q
      subst hj
      exact ⟨b, hi, hr he⟩
    · rw [if_neg hj] at q
      obtain ⟨c, q1, q2⟩ := h.box j ds q
      refine ⟨c, q1, q2.ext he (hot c (fun e => ?_))⟩
      rw [e] at q1
      exact hj (h.inj j i b q1 hi)
  · intro j c q
    obtain ⟨q1, q2, q3, q4⟩ := h.dom j c q
    refine ⟨?_, q2, by omega, q4⟩
    by_cases hj : j = i
    · rw [if_pos hj]; rfl
    · rw [if_neg hj]; exact q1
  · intro s hs'
    obtain ⟨v, e, len, xs, q1, q2, q3⟩ := h.row s hs'
    refine ⟨v, e, len, xs, q1, q2.kept ⟨hos.1, hos.2.1, hos.2.2, by omega, fun k _ hk => hot k (fun e => hk (by rw [e]))⟩ (row := some b) ?_, q3⟩
    cases hv : v.ownBlock with
    | none => exact .inl rfl
    | some c => exact .inr (fun e => by cases e; exact (q3 b hv).2 i hi)

theorem ownsRow_same {e : TypeId} {n : Nat} {v : Value} {len : Nat} {xs : List Value} (h : w.ownsRow base e n v len xs) (hk : ∀ b, v.ownBlock = some b → w'.heap[b]? = w.heap[b]?) : w'.ownsRow base e n v len xs := by
  refine ⟨h.1, ?_⟩
  rcases h.2 with h0 | ⟨g, cap, cur, hv, hbg, hgg, r⟩
  · exact .inl h0
  · exact .inr ⟨g, cap, cur, hv, hbg, (hk g (by rw [hv]; rfl)).trans hgg, r⟩
/-- whatever else has changed in memory -/
theorem RW.still (h : RW P base w0 ok0 g bx K lv w) (hb : Below base w w') (hs : w.heap.size ≤ w'.heap.size) (h1 : ∀ i b, g.β i = some b → w'.heap[b]? = w.heap[b]?) (h2 : ∀ s x b, lv s → g.ow s = some x → x.1.ownBlock = some b → w'.heap[b]? = w.heap[b]?)
    (h3 : ∀ b o, g.ok b o → w'.cell? ⟨b, o, none⟩ = w.cell? ⟨b, o, none⟩) (h4 : ∀ b, g.pr b → w'.heap[b]? = w.heap[b]?) (h5 : ∀ b, g.kp b → w'.heap[b]? = w.heap[b]?) : RW P base w0 ok0 g bx K lv w' ∧ Ext g w g w' := by
  have he : Ext g w g w' := ⟨fun _ _ q => q, fun _ _ q => q, fun _ _ q => q, h3, fun b q => ⟨q, h4 b q⟩, fun _ _ q => q, fun _ _ _ => rfl, fun b q => ⟨q, h5 b q, fun _ q => q, fun q => q⟩, hs⟩
  refine ⟨⟨h.below.trans hb, Nat.le_trans h.hbs hs, fun b o q => (h.okb b o q).imp id (fun q => ⟨q.1, by omega⟩), ?_, ?_, h.inj, ?_, h.rinj, h.fresh, fun b q => ⟨Nat.lt_of_lt_of_le (h.prot b q).1 hs, (h.prot b q).2⟩, fun v L q => (h.iter v L q).ext hs (fun c q => ⟨q, h4 c q⟩), fun b q => ⟨Nat.lt_of_lt_of_le (h.kept b q).1 hs, (h.kept b q).2⟩, h.prb⟩, he⟩
  · intro i cs q
    obtain ⟨b, q1, q2⟩ := h.box i cs q
    exact ⟨b, q1, q2.ext he (h1 i b q1)⟩
  · intro i b q
    obtain ⟨q1, q2, q3, q4⟩ := h.dom i b q
    exact ⟨q1, q2, by omega, q4⟩
  · intro s hs'
    obtain ⟨v, e, len, xs, q1, q2, q3⟩ := h.row s hs'
    exact ⟨v, e, len, xs, q1, ownsRow_same q2 (fun b hb => h2 s _ b hs' q1 hb), q3⟩
theorem BoxIn.sub {g' : Gh} {w : World} {b : Nat} {m : Bool} {cs : List D} (e : Sub g g') (h : BoxIn w g b m cs) : BoxIn w g' b m cs := by
  cases m with
  | false => obtain ⟨vs, t, h1, h2⟩ := h; exact ⟨vs, t, h1, h2.sub e⟩
  | true => obtain ⟨es, clock, h1, h2, h2', h3⟩ := h; exact ⟨es, clock, h1, h2, h2', fun j hj => (h3 j hj).sub e⟩
/-- other blocks are kept; more cells are known -/
theorem RW.turn (h : RW P base w0 ok0 g bx K lv w) {ok' : Nat → Nat → Prop} {kp' : Nat → Prop} (h1 : ∀ b o, g.ok b o → ok' b o) (h2 : ∀ b o, ok' b o → g.ok b o ∨ (base ≤ b ∧ b < w.heap.size ∧ (∀ i, g.β i ≠ some b) ∧ ∀ s x, lv s → g.ow s = some x → x.1.ownBlock ≠ some b))
    (h3 : ∀ b, kp' b → b < w.heap.size ∧ (∀ i, g.β i ≠ some b) ∧ ∀ s x, lv s → g.ow s = some x → x.1.ownBlock ≠ some b) : RW P base w0 ok0 { g with ok := ok', kp := kp' } bx K lv w := by
  have hs : Sub g { g with ok := ok', kp := kp' } := ⟨h1, fun _ _ q => q, fun _ _ q => q, fun _ q => q, fun _ _ q => q, fun _ _ _ => rfl⟩
  refine ⟨h.below, h.hbs, fun b o q => ?_, ?_, ?_, h.inj, ?_, h.rinj, h.fresh, h.prot, h.iter, h3, h.prb⟩
  · rcases h2 b o q with q | q
    · exact h.okb b o q
    · exact .inr ⟨q.1, q.2.1⟩
  · intro i cs q
    obtain ⟨b, q1, q2⟩ := h.box i cs q
    exact ⟨b, q1, q2.sub hs⟩
  · intro i b q
    obtain ⟨q1, q2, q3, q4⟩ := h.dom i b q
    refine ⟨q1, q2, q3, fun o q5 => ?_⟩
    rcases h2 b o q5 with q6 | q6
    · exact q4 o q6
    · exact q6.2.2.1 i q
  · intro s hs'
    obtain ⟨v, e, len, xs, q1, q2, q3⟩ := h.row s hs'
    refine ⟨v, e, len, xs, q1, q2, fun b hb => ⟨fun o ho => ?_, (q3 b hb).2⟩⟩
    rcases h2 b o ho with q | q
    · exact (q3 b hb).1 o q
    · exact absurd hb (q.2.2.2 s _ hs' q1)
end

end Go.Proofs.Ytjikokmhknnnoaa
