import Derived.Test.YtmglacjcefajlaaBE
import Derived.Test.YtmglacjcefajlaaIter
import Derived.ArgAppend
import Derived.Laws.CopyRow
import Derived.Deep.Upon
import Derived.Great.BuildSlice
import Derived.Great.FillDense
/- The run's own memory: boxes, stamped rows, protected blocks, iterators; how it grows. Over any program. -/
namespace Go.Proofs.Ytmglacjcefajlaa
open Go.RowKit

/-- values that read as data -/
def vals (w : World) (g : Gh) (ds : List D) (vs : List Value) : Prop := ds.length = vs.length ∧ ∀ (j : Nat) (h : j < ds.length) (h' : j < vs.length), val w g ds[j] vs[j]
/-- what is known of cells alone -/
def okGh (ok : Nat → Nat → Prop) : Gh := ⟨ok, fun _ => none, fun _ => none, fun _ => False, fun _ _ => False, fun _ => false, fun _ => False⟩
/-- what a round is handed: data in the blocks X -/
def encD (xs : List D) (X : Nat → Prop) (W : World) (args : Array Value) : Prop :=
 (∀ b, X b → b < W.heap.size) ∧ vals W (okGh fun b _ => X b) xs args.toList
/-- a value that is an iterator over data: of its blocks, those that it finds there stay whole -/
def IsIter (P : Program) (pr : Nat → Prop) (v : Value) (L : List (List D)) (w : World) : Prop :=
 ∃ gf lb F, v = .func (.func gf) #[] lb ∧ (∀ args w, (callFunc gf args).run P w = .ok (.enter gf args) w) ∧ (∀ b, F b → pr b ∧ b < w.heap.size) ∧ Iter P gf lb encD L F w
theorem IsIter.ext {P : Program} {pr pr' : Nat → Prop} {v : Value} {L : List (List D)} {w w' : World} (h : IsIter P pr v L w) (hs : w.heap.size ≤ w'.heap.size) (hp : ∀ b, pr b → pr' b ∧ w'.heap[b]? = w.heap[b]?) : IsIter P pr' v L w' := by
 obtain ⟨gf, lb, F, h1, h2, h3, h4⟩ := h
 refine ⟨gf, lb, F, h1, h2, fun b hb => ⟨(hp b (h3 b hb).1).1, Nat.lt_of_lt_of_le (h3 b hb).2 hs⟩, ?_⟩
 intro n l J Jx W q1 q2
 exact h4 n l J Jx W (Nat.le_trans hs q1) (fun b hb => (q2 b hb).trans (hp b (h3 b hb).1).2)

structure RW (P : Program) (base : Nat) (w0 : World) (ok0 : Gh) (g : Gh) (bx : Nat → Option (List D)) (K lv : Nat → Prop) (w : World) : Prop where
 below : Below base w0 w
 hbs : base ≤ w.heap.size
 okb : ∀ b o, g.ok b o → (b < base ∧ ok0.ok b o) ∨ (base ≤ b ∧ b < w.heap.size)
 box : ∀ i cs b, bx i = some cs → g.β i = some b → BoxIn w g b (g.mp i) cs
 dom : ∀ i b, g.β i = some b → (bx i).isSome = true ∧ base ≤ b ∧ b < w.heap.size ∧ ∀ o, ¬ g.ok b o
 inj : ∀ i j b, g.β i = some b → g.β j = some b → i = j
 row : ∀ s, lv s → ∃ v e len xs, g.ow s = some (v, e) ∧ w.ownsRow base e (P.cellsOf e) v len xs ∧ ∀ b, v.ownBlock = some b → (∀ o, g.ok b o → o < len * P.cellsOf e) ∧ (∀ i, g.β i ≠ some b)
 rinj : ∀ s s' x x' b, lv s → lv s' → g.ow s = some x → g.ow s' = some x' → x.1.ownBlock = some b → x'.1.ownBlock = some b → s = s'
 fresh : ∀ s x, g.ow s = some x → K s
 prot : ∀ b, g.pr b → b < w.heap.size ∧ (∀ i, g.β i ≠ some b) ∧ ∀ s x, lv s → g.ow s = some x → x.1.ownBlock ≠ some b
 iter : ∀ v L, g.it v L → IsIter P g.pr v L w
 kept : ∀ b, g.kp b → b < w.heap.size ∧ (∀ i, g.β i ≠ some b) ∧ ∀ s x, lv s → g.ow s = some x → x.1.ownBlock ≠ some b
 prb : ∀ b, b < base → g.pr b → ok0.pr b

section
variable {P : Program} {base : Nat} {w0 : World} {ok0 : Gh} {g : Gh} {bx : Nat → Option (List D)} {K lv : Nat → Prop} {w w' : World}

theorem RW.ok_lt (h : RW P base w0 ok0 g bx K lv w) {b o : Nat} (hk : g.ok b o) : b < w.heap.size := by
 have := h.hbs
 rcases h.okb b o hk with q | q <;> omega

theorem RW.boxesAt (h : RW P base w0 ok0 g bx K lv w) : BoxesAt w g bx := by
 intro i cs b h1 h2
 exact h.box i cs b h1 h2

theorem grown_of_below {a b : World} (h : Below a.heap.size a b) : a.grownBy b none := ⟨h.os, h.tape, h.output, h.size, fun i hi _ => h.block i hi⟩

/-- more is known: of old cells and blocks nothing but what was known -/
structure Grown (P : Program) (g : Gh) (w : World) (g' : Gh) (w' : World) : Prop where
 β : g'.β = g.β
 ow : g'.ow = g.ow
 mp : g'.mp = g.mp
 kp : g'.kp = g.kp
 ok1 : ∀ b o, g.ok b o → g'.ok b o
 ok2 : ∀ b o, g'.ok b o → g.ok b o ∨ (w.heap.size ≤ b ∧ b < w'.heap.size)
 pr1 : ∀ b, g.pr b → g'.pr b
 pr2 : ∀ b, g'.pr b → g.pr b ∨ (w.heap.size ≤ b ∧ b < w'.heap.size)
 it1 : ∀ v L, g.it v L → g'.it v L
 it2 : ∀ v L, g'.it v L → IsIter P g'.pr v L w'
theorem Grown.of_ok {ok' : Nat → Nat → Prop} (hb : Below w.heap.size w w') (hp : ∀ b, g.pr b → b < w.heap.size) (hi : ∀ v L, g.it v L → IsIter P g.pr v L w) (h1 : ∀ b o, g.ok b o → ok' b o) (h2 : ∀ b o, ok' b o → g.ok b o ∨ (w.heap.size ≤ b ∧ b < w'.heap.size)) : Grown P g w { g with ok := ok' } w' :=
 ⟨rfl, rfl, rfl, rfl, h1, h2, fun _ q => q, fun _ q => .inl q, fun _ _ q => q, fun v L q => (hi v L q).ext hb.size (fun b hb' => ⟨hb', hb.block b (hp b hb')⟩)⟩

/-- new blocks have come; some of their cells are to stay -/
theorem RW.grows (h : RW P base w0 ok0 g bx K lv w) (hb : Below w.heap.size w w') {g' : Gh} (hg : Grown P g w g' w') : RW P base w0 ok0 g' bx K lv w' ∧ Ext g w g' w' := by
 have hs := hb.size
 have hbs := h.hbs
 have he : Ext g w g' w' := ⟨hg.ok1, fun _ _ q => by rw [hg.β]; exact q, fun _ _ q => by rw [hg.ow]; exact q, fun b o q => hb.cell (p := ⟨b, o, none⟩) (h.ok_lt q), fun b q => ⟨hg.pr1 b q, hb.block b (h.prot b q).1⟩, hg.it1, fun i b q => (by rw [hg.mp]), fun b q => ⟨by rw [hg.kp]; exact q, hb.block b (h.kept b q).1, fun o q' => (hg.ok2 b o q').resolve_right (fun q'' => by have := (h.kept b q).1; omega), fun q' => (hg.pr2 b q').resolve_right (fun q'' => by have := (h.kept b q).1; omega)⟩, hb.size⟩
 refine ⟨⟨h.below.trans (hb.mono hbs), by omega, ?_, ?_, ?_, by rw [hg.β]; exact h.inj, ?_, by rw [hg.ow]; exact h.rinj, by rw [hg.ow]; exact h.fresh, ?_, hg.it2, fun b q => by rw [hg.kp] at q; rw [hg.β, hg.ow]; obtain ⟨q1, q2, q3⟩ := h.kept b q; exact ⟨by omega, q2, q3⟩, fun b hb' q => (hg.pr2 b q).elim (h.prb b hb') (fun q => by omega)⟩, he⟩
 ·intro b o q
  rcases hg.ok2 b o q with q | q
  ·rcases h.okb b o q with q | q
   ·exact .inl q
   ·exact .inr ⟨q.1, by omega⟩
  ·exact .inr ⟨by omega, q.2⟩
 ·intro i cs b q q1
  rw [hg.β] at q1
  have q2 := h.box i cs b q q1
  rw [hg.mp]
  exact q2.ext he (hb.block b (h.dom i b q1).2.2.1)
 ·intro i b q
  rw [hg.β] at q
  obtain ⟨q1, q2, q3, q4⟩ := h.dom i b q
  refine ⟨q1, q2, by omega, fun o q5 => ?_⟩
  rcases hg.ok2 b o q5 with q6 | q6
  ·exact q4 o q6
  ·omega
 ·intro s hs'
  obtain ⟨v, e, len, xs, q1, q2, q3⟩ := h.row s hs'
  refine ⟨v, e, len, xs, by rw [hg.ow]; exact q1, q2.kept (grown_of_below hb) (by cases v.ownBlock <;> simp), fun b hv => ⟨fun o ho => ?_, by rw [hg.β]; exact (q3 b hv).2⟩⟩
  rcases hg.ok2 b o ho with q6 | q6
  ·exact (q3 b hv).1 o q6
  ·have := (q2.lt b hv).2; omega
 ·intro b q
  rcases hg.pr2 b q with q | q
  ·obtain ⟨q1, q2, q3⟩ := h.prot b q
   exact ⟨by omega, by rw [hg.β]; exact q2, by rw [hg.ow]; exact q3⟩
  ·refine ⟨q.2, fun i q' => ?_, fun s x hs' hx q' => ?_⟩
   ·rw [hg.β] at q'
    have := (h.dom i b q').2.2.1; omega
   ·rw [hg.ow] at hx
    obtain ⟨v, e, len, xs, r1, r2, _⟩ := h.row s hs'
    rw [hx] at r1
    cases r1
    have := (r2.lt b q').2; omega
theorem RW.grow (h : RW P base w0 ok0 g bx K lv w) (hb : Below w.heap.size w w') {ok' : Nat → Nat → Prop} (h1 : ∀ b o, g.ok b o → ok' b o) (h2 : ∀ b o, ok' b o → g.ok b o ∨ (w.heap.size ≤ b ∧ b < w'.heap.size)) :
  RW P base w0 ok0 { g with ok := ok' } bx K lv w' ∧ Ext g w { g with ok := ok' } w' :=
 h.grows hb (Grown.of_ok hb (fun b q => (h.prot b q).1) h.iter h1 h2)

/-- a block that nobody knows becomes a box -/
theorem RW.addBox (h : RW P base w0 ok0 g bx K lv w) {i b : Nat} {cs : List D} {m : Bool} (hb1 : base ≤ b) (hb2 : b < w.heap.size) (hno : ∀ o, ¬ g.ok b o) (hnp : ¬ g.pr b) (hnk : ¬ g.kp b) (hnb : ∀ j, g.β j ≠ some b)
  (hnr : ∀ s x, lv s → g.ow s = some x → x.1.ownBlock ≠ some b) (hi : bx i = none) (hr : BoxIn w g b m cs) :
  RW P base w0 ok0 { g with β := fun j => if j = i then some b else g.β j, mp := fun j => if j = i then m else g.mp j } (fun j => if j = i then some cs else bx j) K lv w ∧ Ext g w { g with β := fun j => if j = i then some b else g.β j, mp := fun j => if j = i then m else g.mp j } w := by
 have hβ : g.β i = none := by
  cases hq : g.β i with
  | none => rfl
  | some c => have := (h.dom i c hq).1; rw [hi] at this; cases this
 have he : Ext g w { g with β := fun j => if j = i then some b else g.β j, mp := fun j => if j = i then m else g.mp j } w := by
  refine ⟨fun _ _ q => q, fun j c q => ?_, fun _ _ q => q, fun _ _ _ => rfl, fun _ q => ⟨q, rfl⟩, fun _ _ q => q, fun j c q => ?_, fun _ q => ⟨q, rfl, fun _ q => q, fun q => q⟩, Nat.le_refl _⟩
  ·show (if j = i then some b else g.β j) = some c
   rw [if_neg (fun e => by rw [e, hβ] at q; cases q)]; exact q
  ·show (if j = i then m else g.mp j) = g.mp j
   rw [if_neg (fun e => by rw [e, hβ] at q; cases q)]
 refine ⟨⟨h.below, h.hbs, h.okb, ?_, ?_, ?_, ?_, h.rinj, h.fresh, ?_, h.iter, ?_, h.prb⟩, he⟩
 ·intro j ds c q q1
  dsimp only at q1
  by_cases hj : j = i
  ·rw [if_pos hj] at q q1
   cases q
   cases q1
   show BoxIn w _ b (if j = i then m else g.mp j) cs
   rw [if_pos hj]
   exact hr.ext he rfl
  ·rw [if_neg hj] at q q1
   have q2 := h.box j ds c q q1
   show BoxIn w _ c (if j = i then m else g.mp j) ds
   rw [if_neg hj]
   exact q2.ext he rfl
 ·intro j c q
  dsimp only at q ⊢
  by_cases hj : j = i
  ·rw [if_pos hj] at q ⊢
   cases q
   exact ⟨rfl, hb1, hb2, hno⟩
  ·rw [if_neg hj] at q ⊢
   exact h.dom j c q
 ·intro j k c q1 q2
  dsimp only at q1 q2
  by_cases hj : j = i <;> by_cases hk : k = i
  ·omega
  ·rw [if_pos hj] at q1; rw [if_neg hk] at q2; cases q1; exact absurd q2 (hnb k)
  ·rw [if_neg hj] at q1; rw [if_pos hk] at q2; cases q2; exact absurd q1 (hnb j)
  ·rw [if_neg hj] at q1; rw [if_neg hk] at q2; exact h.inj j k c q1 q2
 ·intro s hs
  obtain ⟨v, e, len, xs, q1, q2, q3⟩ := h.row s hs
  refine ⟨v, e, len, xs, q1, q2, fun c hc => ⟨(q3 c hc).1, fun j q => ?_⟩⟩
  dsimp only at q
  by_cases hj : j = i
  ·rw [if_pos hj] at q; cases q; exact hnr s _ hs q1 hc
  ·rw [if_neg hj] at q; exact (q3 c hc).2 j q
 ·intro c q
  obtain ⟨q1, q2, q3⟩ := h.prot c q
  refine ⟨q1, fun j q' => ?_, q3⟩
  dsimp only at q'
  by_cases hj : j = i
  ·rw [if_pos hj] at q'; cases q'; exact hnp q
  ·rw [if_neg hj] at q'; exact q2 j q'
 ·intro c q
  obtain ⟨q1, q2, q3⟩ := h.kept c q
  refine ⟨q1, fun j q' => ?_, q3⟩
  dsimp only at q'
  by_cases hj : j = i
  ·rw [if_pos hj] at q'; cases q'; exact hnk q
  ·rw [if_neg hj] at q'; exact q2 j q'

/-- a row of the run's own gets a stamp -/
theorem RW.addRow (h : RW P base w0 ok0 g bx K lv w) {s : Nat} {v : Value} {e : TypeId} {len : Nat} {xs : List Value} (hs : ¬ K s) (ho : w.ownsRow base e (P.cellsOf e) v len xs)
  (hk : ∀ b, v.ownBlock = some b → (∀ o, g.ok b o → o < len * P.cellsOf e) ∧ (∀ i, g.β i ≠ some b) ∧ (∀ s' x, lv s' → g.ow s' = some x → x.1.ownBlock ≠ some b) ∧ ¬ g.pr b ∧ ¬ g.kp b) :
  RW P base w0 ok0 { g with ow := fun j => if j = s then some (v, e) else g.ow j } bx (fun j => K j ∨ j = s) (fun j => lv j ∨ j = s) w ∧ Ext g w { g with ow := fun j => if j = s then some (v, e) else g.ow j } w := by
 have hn : ∀ x, g.ow s ≠ some x := fun x q => hs (h.fresh s x q)
 have hl : ∀ j, lv j → j ≠ s := fun j q e' => by
  obtain ⟨v, e, _, _, q1, _⟩ := h.row j q
  rw [e'] at q1; exact hn _ q1
 have he : Ext g w { g with ow := fun j => if j = s then some (v, e) else g.ow j } w := by
  refine ⟨fun _ _ q => q, fun _ _ q => q, fun j x q => ?_, fun _ _ _ => rfl, fun _ q => ⟨q, rfl⟩, fun _ _ q => q, fun _ _ _ => rfl, fun _ q => ⟨q, rfl, fun _ q => q, fun q => q⟩, Nat.le_refl _⟩
  show (if j = s then some (v, e) else g.ow j) = some x
  rw [if_neg (fun e => by rw [e] at q; exact hn x q)]; exact q
 refine ⟨⟨h.below, h.hbs, h.okb, ?_, h.dom, h.inj, ?_, ?_, ?_, ?_, h.iter, ?_, h.prb⟩, he⟩
 ·intro i cs b q q1
  exact (h.box i cs b q q1).ext he rfl
 ·intro j hj
  by_cases e' : j = s
  ·subst e'
   refine ⟨v, e, len, xs, by show (if j = j then some (v, e) else g.ow j) = _; rw [if_pos rfl], ho, fun b hb => ⟨(hk b hb).1, (hk b hb).2.1⟩⟩
  ·obtain ⟨v', e1, len', xs', q1, q2, q3⟩ := h.row j (hj.resolve_right e')
   exact ⟨v', e1, len', xs', by show (if j = s then some (v, e) else g.ow j) = _; rw [if_neg e']; exact q1, q2, q3⟩
 ·intro j j' x x' b hj hj' q q' hb hb'
  dsimp only at q q'
  by_cases e1 : j = s <;> by_cases e2 : j' = s
  ·omega
  ·rw [if_pos e1] at q; rw [if_neg e2] at q'; cases q
   exact absurd hb' ((hk b hb).2.2.1 j' x' (hj'.resolve_right e2) q')
  ·rw [if_neg e1] at q; rw [if_pos e2] at q'; cases q'
   exact absurd hb ((hk b hb').2.2.1 j x (hj.resolve_right e1) q)
  ·rw [if_neg e1] at q; rw [if_neg e2] at q'
   exact h.rinj j j' x x' b (hj.resolve_right e1) (hj'.resolve_right e2) q q' hb hb'
 ·intro j x q
  dsimp only at q
  by_cases e' : j = s
  ·exact .inr e'
  ·rw [if_neg e'] at q; exact .inl (h.fresh j x q)
 ·intro b q
  obtain ⟨q1, q2, q3⟩ := h.prot b q
  refine ⟨q1, q2, fun j x hj hx hb => ?_⟩
  dsimp only at hx
  by_cases e' : j = s
  ·rw [if_pos e'] at hx; cases hx; exact (hk b hb).2.2.2.1 q
  ·rw [if_neg e'] at hx; exact q3 j x (hj.resolve_right e') hx hb
 ·intro b q
  obtain ⟨q1, q2, q3⟩ := h.kept b q
  refine ⟨q1, q2, fun j x hj hx hb => ?_⟩
  dsimp only at hx
  by_cases e' : j = s
  ·rw [if_pos e'] at hx; cases hx; exact (hk b hb).2.2.2.2 q
  ·rw [if_neg e'] at hx; exact q3 j x (hj.resolve_right e') hx hb

/-- a stamp is given up -/
theorem RW.drop (h : RW P base w0 ok0 g bx K lv w) {lv' : Nat → Prop} (hl : ∀ s, lv' s → lv s) : RW P base w0 ok0 g bx K lv' w :=
 ⟨h.below, h.hbs, h.okb, h.box, h.dom, h.inj, fun s q => h.row s (hl s q), fun s s' x x' b q q' => h.rinj s s' x x' b (hl s q) (hl s' q'), h.fresh, fun b q => ⟨(h.prot b q).1, (h.prot b q).2.1, fun s x hs => (h.prot b q).2.2 s x (hl s hs)⟩, h.iter, fun b q => ⟨(h.kept b q).1, (h.kept b q).2.1, fun s x hs => (h.kept b q).2.2 s x (hl s hs)⟩, h.prb⟩
theorem RW.more (h : RW P base w0 ok0 g bx K lv w) {K' : Nat → Prop} (hk : ∀ s, K s → K' s) : RW P base w0 ok0 g bx K' lv w :=
 ⟨h.below, h.hbs, h.okb, h.box, h.dom, h.inj, h.row, h.rinj, fun s x q => hk s (h.fresh s x q), h.prot, h.iter, h.kept, h.prb⟩
theorem RW.same_bx (h : RW P base w0 ok0 g bx K lv w) {bx' : Nat → Option (List D)} (hk : ∀ i, bx' i = bx i) : RW P base w0 ok0 g bx' K lv w := by
 have : bx' = bx := funext hk
 rw [this]; exact h

/-- a box is written -/
theorem RW.put (h : RW P base w0 ok0 g bx K lv w) {i b : Nat} {cs : List D} (hi : g.β i = some b) (hs : w'.heap.size = w.heap.size) (hot : ∀ c, c ≠ b → w'.heap[c]? = w.heap[c]?)
  (hos : w'.os = w.os ∧ w'.tape = w.tape ∧ w'.output = w.output) (hr : Ext g w g w' → BoxIn w' g b (g.mp i) cs) :
  RW P base w0 ok0 g (fun j => if j = i then some cs else bx j) K lv w' ∧ Ext g w g w' := by
 obtain ⟨d1, d2, d3, d4⟩ := h.dom i b hi
 have hpr : ∀ c, g.pr c → w'.heap[c]? = w.heap[c]? := fun c q => hot c (fun e => by rw [e] at q; exact (h.prot b q).2.1 i hi)
 have hkp : ∀ c, g.kp c → w'.heap[c]? = w.heap[c]? := fun c q => hot c (fun e => by rw [e] at q; exact (h.kept b q).2.1 i hi)
 have he : Ext g w g w' := ⟨fun _ _ q => q, fun _ _ q => q, fun _ _ q => q, fun c o q => World.cell?_of_block (hot c (fun e => by rw [e] at q; exact d4 o q)), fun c q => ⟨q, hpr c q⟩, fun _ _ q => q, fun _ _ _ => rfl, fun c q => ⟨q, hkp c q, fun _ q => q, fun q => q⟩, Nat.le_of_eq hs.symm⟩
 have hb : Below base w w' := ⟨hos.1, hos.2.1, hos.2.2, by omega, fun k hk => hot k (by omega)⟩
 refine ⟨⟨h.below.trans hb, by rw [hs]; exact h.hbs, by rw [hs]; exact h.okb, ?_, ?_, h.inj, ?_, h.rinj, h.fresh, fun c q => ⟨by rw [hs]; exact (h.prot c q).1, (h.prot c q).2⟩, fun v L q => (h.iter v L q).ext (by omega) (fun c q => ⟨q, hpr c q⟩), fun c q => ⟨by rw [hs]; exact (h.kept c q).1, (h.kept c q).2⟩, h.prb⟩, he⟩
 ·intro j ds c q q1
  by_cases hj : j = i
  ·rw [if_pos hj] at q
   cases q
   subst hj
   rw [hi] at q1
   cases q1
   exact hr he
  ·rw [if_neg hj] at q
   have q2 := h.box j ds c q q1
   refine q2.ext he (hot c (fun e => ?_))
   rw [e] at q1
   exact hj (h.inj j i b q1 hi)
 ·intro j c q
  obtain ⟨q1, q2, q3, q4⟩ := h.dom j c q
  refine ⟨?_, q2, by omega, q4⟩
  by_cases hj : j = i
  ·rw [if_pos hj]; rfl
  ·rw [if_neg hj]; exact q1
 ·intro s hs'
  obtain ⟨v, e, len, xs, q1, q2, q3⟩ := h.row s hs'
  refine ⟨v, e, len, xs, q1, q2.kept ⟨hos.1, hos.2.1, hos.2.2, by omega, fun k _ hk => hot k (fun e => hk (by rw [e]))⟩ (row := some b) ?_, q3⟩
  cases hv : v.ownBlock with
  | none => exact .inl rfl
  | some c => exact .inr (fun e => by cases e; exact (q3 b hv).2 i hi)

theorem ownsRow_same {e : TypeId} {n : Nat} {v : Value} {len : Nat} {xs : List Value} (h : w.ownsRow base e n v len xs) (hk : ∀ b, v.ownBlock = some b → w'.heap[b]? = w.heap[b]?) : w'.ownsRow base e n v len xs := by
 refine ⟨h.1, ?_⟩
 rcases h.2 with h0 | ⟨g, cap, cur, hv, hbg, hgg, r⟩
 ·exact .inl h0
 ·exact .inr ⟨g, cap, cur, hv, hbg, (hk g (by rw [hv]; rfl)).trans hgg, r⟩
/-- whatever else has changed in memory -/
theorem RW.still (h : RW P base w0 ok0 g bx K lv w) (hb : Below base w w') (hs : w.heap.size ≤ w'.heap.size) (h1 : ∀ i b, g.β i = some b → w'.heap[b]? = w.heap[b]?) (h2 : ∀ s x b, lv s → g.ow s = some x → x.1.ownBlock = some b → w'.heap[b]? = w.heap[b]?)
  (h3 : ∀ b o, g.ok b o → w'.cell? ⟨b, o, none⟩ = w.cell? ⟨b, o, none⟩) (h4 : ∀ b, g.pr b → w'.heap[b]? = w.heap[b]?) (h5 : ∀ b, g.kp b → w'.heap[b]? = w.heap[b]?) : RW P base w0 ok0 g bx K lv w' ∧ Ext g w g w' := by
 have he : Ext g w g w' := ⟨fun _ _ q => q, fun _ _ q => q, fun _ _ q => q, h3, fun b q => ⟨q, h4 b q⟩, fun _ _ q => q, fun _ _ _ => rfl, fun b q => ⟨q, h5 b q, fun _ q => q, fun q => q⟩, hs⟩
 refine ⟨⟨h.below.trans hb, Nat.le_trans h.hbs hs, fun b o q => (h.okb b o q).imp id (fun q => ⟨q.1, by omega⟩), ?_, ?_, h.inj, ?_, h.rinj, h.fresh, fun b q => ⟨Nat.lt_of_lt_of_le (h.prot b q).1 hs, (h.prot b q).2⟩, fun v L q => (h.iter v L q).ext hs (fun c q => ⟨q, h4 c q⟩), fun b q => ⟨Nat.lt_of_lt_of_le (h.kept b q).1 hs, (h.kept b q).2⟩, h.prb⟩, he⟩
 ·intro i cs b q q1
  exact (h.box i cs b q q1).ext he (h1 i b q1)
 ·intro i b q
  obtain ⟨q1, q2, q3, q4⟩ := h.dom i b q
  exact ⟨q1, q2, by omega, q4⟩
 ·intro s hs'
  obtain ⟨v, e, len, xs, q1, q2, q3⟩ := h.row s hs'
  exact ⟨v, e, len, xs, q1, ownsRow_same q2 (fun b hb => h2 s _ b hs' q1 hb), q3⟩
theorem BoxIn.sub {g' : Gh} {w : World} {b : Nat} {m : Bool} {cs : List D} (e : Sub g g') (h : BoxIn w g b m cs) : BoxIn w g' b m cs := by
 cases m with
 | false => obtain ⟨vs, sp, t, h1, h2⟩ := h; exact ⟨vs, sp, t, h1, h2.sub e⟩
 | true => obtain ⟨es, clock, h1, h2, h2', h3, h4⟩ := h; exact ⟨es, clock, h1, h2, h2', fun j hj => (h3 j hj).sub e, h4⟩
/-- other blocks are kept; more cells are known -/
theorem RW.turn (h : RW P base w0 ok0 g bx K lv w) {ok' : Nat → Nat → Prop} {kp' : Nat → Prop} (h1 : ∀ b o, g.ok b o → ok' b o) (h2 : ∀ b o, ok' b o → g.ok b o ∨ (base ≤ b ∧ b < w.heap.size ∧ (∀ i, g.β i ≠ some b) ∧ ∀ s x, lv s → g.ow s = some x → x.1.ownBlock ≠ some b))
  (h3 : ∀ b, kp' b → b < w.heap.size ∧ (∀ i, g.β i ≠ some b) ∧ ∀ s x, lv s → g.ow s = some x → x.1.ownBlock ≠ some b) : RW P base w0 ok0 { g with ok := ok', kp := kp' } bx K lv w := by
 have hs : Sub g { g with ok := ok', kp := kp' } := ⟨h1, fun _ _ q => q, fun _ _ q => q, fun _ q => q, fun _ _ q => q, fun _ _ _ => rfl⟩
 refine ⟨h.below, h.hbs, fun b o q => ?_, ?_, ?_, h.inj, ?_, h.rinj, h.fresh, h.prot, h.iter, h3, h.prb⟩
 ·rcases h2 b o q with q | q
  ·exact h.okb b o q
  ·exact .inr ⟨q.1, q.2.1⟩
 ·intro i cs b q q1
  exact (h.box i cs b q q1).sub hs
 ·intro i b q
  obtain ⟨q1, q2, q3, q4⟩ := h.dom i b q
  refine ⟨q1, q2, q3, fun o q5 => ?_⟩
  rcases h2 b o q5 with q6 | q6
  ·exact q4 o q6
  ·exact q6.2.2.1 i q
 ·intro s hs'
  obtain ⟨v, e, len, xs, q1, q2, q3⟩ := h.row s hs'
  refine ⟨v, e, len, xs, q1, q2, fun b hb => ⟨fun o ho => ?_, (q3 b hb).2⟩⟩
  rcases h2 b o ho with q | q
  ·exact (q3 b hb).1 o q
  ·exact absurd hb (q.2.2.2 s _ hs' q1)
end

end Go.Proofs.Ytmglacjcefajlaa

/- Operations that make or write memory. Over any program. -/
namespace Go.Proofs.Ytmglacjcefajlaa
open Go.RowKit

section
variable {P : Program} {base : Nat} {w0 : World} {ok0 : Gh} {g : Gh} {bx : Nat → Option (List D)} {K lv : Nat → Prop} {w w' : World} {ρ : Operand → Value} {o : Oper}

/-- a new box, in a new block -/
theorem newBoxIn (h : RW P base w0 ok0 g bx K lv w) {i : Nat} {cs : List D} {m : Bool} (X : Obj) (hi : bx i = none) (hr : Ext g w g (w.alloc X) → BoxIn (w.alloc X) g w.heap.size m cs) :
  ∃ g', RW P base w0 ok0 g' (fun j => if j = i then some cs else bx j) K lv (w.alloc X) ∧ Ext g w g' (w.alloc X) ∧ g'.β i = some w.heap.size ∧ g'.mp i = m := by
 have hb : Below w.heap.size w (w.alloc X) := (Below.refl _ w).alloc (Nat.le_refl _) _
 obtain ⟨h1, e1⟩ := h.grow hb (ok' := g.ok) (fun _ _ q => q) (fun _ _ q => .inl q)
 obtain ⟨h2, e2⟩ := h1.addBox (i := i) (b := w.heap.size) (cs := cs) (m := m) h.hbs (by simp) (fun o q => by have := h.ok_lt q; omega) (fun q => by have := (h.prot _ q).1; omega) (fun q => by have := (h.kept _ q).1; omega) (fun j q => by have := (h.dom j _ q).2.2.1; omega)
  (fun s x hs hx q => by
   obtain ⟨v, e, len, xs, q1, q2, _⟩ := h.row s hs
   rw [hx] at q1
   cases q1
   have := (q2.lt _ q).2; omega) hi (hr e1)
 exact ⟨_, h2, e1.trans e2, by show (if i = i then _ else _) = _; rw [if_pos rfl], by show (if i = i then _ else _) = _; rw [if_pos rfl]⟩
/-- a new box -/
theorem newBox (h : RW P base w0 ok0 g bx K lv w) {i : Nat} {cs : List D} {vs : List Value} (t : TypeId) (hi : bx i = none) (hr : R w g (.agg cs) vs) :
  ∃ g', RW P base w0 ok0 g' (fun j => if j = i then some cs else bx j) K lv (w.alloc (.cells vs.toArray t)) ∧ Ext g w g' (w.alloc (.cells vs.toArray t)) ∧ val (w.alloc (.cells vs.toArray t)) g' (.ptr i 0) (.pointer (some ⟨w.heap.size, 0, none⟩)) := by
 obtain ⟨g', h1, h2, h3, h4⟩ := newBoxIn h (i := i) (cs := cs) (m := false) (.cells vs.toArray t) hi (fun e => ⟨vs, [], t, by rw [List.append_nil]; exact heap_alloc_new w _, hr.ext e⟩)
 exact ⟨g', h1, h2, val_of_R (.ptr _ _ _ h3 h4) rfl⟩
/-- a new map -/
theorem newMap (h : RW P base w0 ok0 g bx K lv w) {i : Nat} (hi : bx i = none) :
  ∃ g', RW P base w0 ok0 g' (fun j => if j = i then some [] else bx j) K lv (w.alloc (.map #[] 0)) ∧ Ext g w g' (w.alloc (.map #[] 0)) ∧ val (w.alloc (.map #[] 0)) g' (.mref i) (.map (some w.heap.size)) := by
 obtain ⟨g', h1, h2, h3, h4⟩ := newBoxIn h (i := i) (cs := []) (m := true) (.map #[] 0) hi (fun e => ⟨#[], 0, heap_alloc_new w _, rfl, by simp, fun j hj => absurd hj (Nat.not_lt_zero _), MapKept.stamped_empty 0⟩)
 exact ⟨g', h1, h2, val_of_R (.mref _ _ h3 h4) rfl⟩

theorem flat_at (cs : Nat → List Value) (n : Nat) : ∀ (m i j r : Nat), (∀ k, i ≤ k → k < i + m → (cs k).length = n) → j < m → r < n → ((List.range' i m).flatMap cs)[j * n + r]? = (cs (i + j))[r]?
 | 0, _, _, _, _, h, _ => absurd h (Nat.not_lt_zero _)
 | m + 1, i, 0, r, hn, _, hr => by
  rw [List.range'_succ, List.flatMap_cons, List.getElem?_append_left (by rw [hn i (Nat.le_refl _) (by omega)]; omega)]
  simp
 | m + 1, i, j + 1, r, hn, h, hr => by
  have hi := hn i (Nat.le_refl _) (by omega)
  rw [List.range'_succ, List.flatMap_cons, List.getElem?_append_right (by rw [hi, Nat.add_mul]; omega), hi]
  rw [show (j + 1) * n + r - n = j * n + r from by rw [Nat.add_mul]; omega]
  rw [flat_at cs n m (i + 1) j r (fun k h1 h2 => hn k (by omega) (by omega)) (by omega) hr]
  rw [show i + 1 + j = i + (j + 1) from by omega]
theorem flat_len (cs : Nat → List Value) (n : Nat) : ∀ (m i : Nat), (∀ k, i ≤ k → k < i + m → (cs k).length = n) → ((List.range' i m).flatMap cs).length = m * n
 | 0, _, _ => by simp
 | m + 1, i, hn => by
  rw [List.range'_succ, List.flatMap_cons, zla, hn i (Nat.le_refl _) (by omega), flat_len cs n m (i + 1) (fun k h1 h2 => hn k (by omega) (by omega)), Nat.add_mul]
  omega
theorem flat_mem (cs : Nat → List Value) {m i : Nat} {u : Value} (h : u ∈ (List.range' i m).flatMap cs) : ∃ k, i ≤ k ∧ k < i + m ∧ u ∈ cs k := by
 obtain ⟨k, hk, hu⟩ := List.mem_flatMap.1 h
 have := List.mem_range'_1.1 hk
 exact ⟨k, this.1, this.2, hu⟩
/-- any place of the cells, side by side -/
theorem flat_split {n k m : Nat} (hk : k < m * n) : ∃ j r, j < m ∧ r < n ∧ k = j * n + r := by
 have hn : 0 < n := by
  rcases Nat.eq_zero_or_pos n with h | h
  ·rw [h] at hk; omega
  ·exact h
 exact ⟨k / n, k % n, by rw [Nat.div_lt_iff_lt_mul hn]; exact hk, Nat.mod_lt _ hn, by rw [Nat.mul_comm]; exact (Nat.div_add_mod k n).symm⟩

/-- a slice whose elements lie side by side in a row of the run's own -/
theorem own_slice {e : TypeId} {n : Nat} {v : Value} {l : List D} {xs : List Value} {s : Nat} {cs : Nat → List Value} (ho : w.ownsRow base e n v l.length xs) (how : g.ow s = some (v, e)) (hok : ∀ b, v.ownBlock = some b → ∀ o, o < l.length * n → g.ok b o)
  (hr : ∀ (j : Nat) (h : j < l.length), R w g l[j] (cs j)) (hn : ∀ j, j < l.length → (cs j).length = n) (hx : ∀ j r u, j < l.length → (cs j)[r]? = some u → xs[j * n + r]? = some u) (hne : l ≠ [] ∨ ∃ A c, v = .slice (some A) 0 c) : val w g (.slice (.own s e) n l) v := by
 have ho' := ho
 rcases ho.2 with ⟨rfl, h0⟩ | ⟨b, cap, cur, rfl, _, hg, hnc, hcm, hcs, htake⟩
 ·exfalso
  rcases hne with h | ⟨A, c, h⟩
  ·exact h (List.eq_nil_of_length_eq_zero h0)
  ·cases h
 ·refine val_of_R (.slice (.own s e) n l (some ⟨b, 0, none⟩) cap cs hnc (by simpa [maxLen] using hcm) (fun s' e' q => by cases q; exact how) trivial trivial hr hn (fun j hj => ⟨b, 0, rfl, fun m u hu => ?_⟩)) rfl
  have hm : m < n := by rw [← hn j hj]; exact (List.getElem?_eq_some_iff.1 hu).1
  have hlt : j * n + m < l.length * n := by
   have : (j + 1) * n ≤ l.length * n := Nat.mul_le_mul_right _ hj
   rw [Nat.add_mul] at this; omega
  rw [show 0 + j * n + m = j * n + m from by omega]
  refine ⟨hok b rfl _ hlt, ?_⟩
  have := ho'.cells (g := b) rfl _ _ (hx j m u hj hu)
  rwa [addr_plus, Nat.zero_add] at this

/-- a new row, with a stamp -/
theorem newRow' (h : RW P base w0 ok0 g bx K lv w) {s : Nat} {e : TypeId} {l : List D} {cs : Nat → List Value} (hs : ¬ K s) (hl : l.length ≤ 9223372036854775807)
  (hr : ∀ (j : Nat) (h : j < l.length), R w g l[j] (cs j)) (hn : ∀ j, j < l.length → (cs j).length = P.cellsOf e) :
  ∃ g', RW P base w0 ok0 g' bx (fun j => K j ∨ j = s) (fun j => lv j ∨ j = s) (w.alloc (.cells ((List.range' 0 l.length).flatMap cs).toArray e)) ∧ Ext g w g' (w.alloc (.cells ((List.range' 0 l.length).flatMap cs).toArray e)) ∧
   val (w.alloc (.cells ((List.range' 0 l.length).flatMap cs).toArray e)) g' (.slice (.own s e) (P.cellsOf e) l) (.slice (some ⟨w.heap.size, 0, none⟩) l.length l.length) := by
 have hb : Below w.heap.size w (w.alloc (.cells ((List.range' 0 l.length).flatMap cs).toArray e)) := (Below.refl _ w).alloc (Nat.le_refl _) _
 obtain ⟨h1, e1⟩ := h.grow hb (ok' := fun b o => g.ok b o ∨ (b = w.heap.size ∧ o < l.length * P.cellsOf e)) (fun _ _ q => .inl q) (fun b o q => q.imp id (fun q => by simp [q.1]))
 have hfl := flat_len cs (P.cellsOf e) l.length 0 (fun k _ hk => hn k (by omega))
 have hown : (w.alloc (.cells ((List.range' 0 l.length).flatMap cs).toArray e)).ownsRow base e (P.cellsOf e) (.slice (some ⟨w.heap.size, 0, none⟩) l.length l.length) l.length ((List.range' 0 l.length).flatMap cs) :=
  ⟨hfl, .inr ⟨w.heap.size, l.length, _, rfl, h.hbs, heap_alloc_new w _, Nat.le_refl _, by simpa [maxLen] using hl, by simpa using hfl, List.take_of_length_le (by rw [hfl]; exact Nat.le_refl _)⟩⟩
 obtain ⟨h2, e2⟩ := h1.addRow (s := s) hs hown (fun b q => by
  obtain rfl : w.heap.size = b := by simpa [Value.ownBlock] using q
  refine ⟨fun o q => ?_, fun i q => ?_, fun s' x hs' hx q => ?_, fun q => ?_, fun q => ?_⟩
  ·rcases q with q | q
   ·have := h.ok_lt q; omega
   ·exact q.2
  ·have := (h.dom i _ q).2.2.1; omega
  ·obtain ⟨v, e, len, xs, q1, q2, _⟩ := h.row s' hs'
   have hx' : g.ow s' = some x := hx
   rw [hx'] at q1
   cases q1
   have := (q2.lt _ q).2; omega
  ·have := (h.prot _ q).1; omega
  ·have := (h.kept _ q).1; omega)
 refine ⟨_, h2, e1.trans e2, own_slice (xs := (List.range' 0 l.length).flatMap cs) (cs := cs) hown (by show (if s = s then _ else _) = _; rw [if_pos rfl]) (fun b q o ho => .inr ⟨by simpa [Value.ownBlock] using q.symm, ho⟩) (fun j hj => (hr j hj).ext (e1.trans e2)) hn (fun j r u hj hu => ?_) (by
  cases l with
  | nil => exact .inr ⟨_, _, rfl⟩
  | cons a r => exact .inl (by simp))⟩
 rw [flat_at cs (P.cellsOf e) l.length 0 j r (fun k _ hk => hn k (by omega)) hj (by rw [← hn j hj]; exact (List.getElem?_eq_some_iff.1 hu).1), Nat.zero_add]
 exact hu

/-- a row of the run's own is written behind its end -/
theorem RW.rowPut (h : RW P base w0 ok0 g bx K lv w) {st b : Nat} {v : Value} {e : TypeId} (hlv : lv st) (how : g.ow st = some (v, e)) (hb : v.ownBlock = some b) (hs : w'.heap.size = w.heap.size) (hot : ∀ c, c ≠ b → w'.heap[c]? = w.heap[c]?)
  (hos : w'.os = w.os ∧ w'.tape = w.tape ∧ w'.output = w.output) (hcell : ∀ o, g.ok b o → w'.cell? ⟨b, o, none⟩ = w.cell? ⟨b, o, none⟩) {ok' : Nat → Nat → Prop} (h1 : ∀ c o, g.ok c o → ok' c o) (h2 : ∀ c o, ok' c o → g.ok c o ∨ c = b) :
  RW P base w0 ok0 { g with ok := ok' } bx K (fun j => lv j ∧ j ≠ st) w' ∧ Ext g w { g with ok := ok' } w' := by
 obtain ⟨v', e', len, xs, q1, q2, q3⟩ := h.row st hlv
 rw [how] at q1
 cases q1
 obtain ⟨l1, l2⟩ := q2.lt b hb
 have hnb := (q3 b hb).2
 have hpr : ∀ c, g.pr c → w'.heap[c]? = w.heap[c]? := fun c q => hot c (fun e => by rw [e] at q; exact (h.prot b q).2.2 st _ hlv how hb)
 have hkp : ∀ c, g.kp c → w'.heap[c]? = w.heap[c]? := fun c q => hot c (fun e => by rw [e] at q; exact (h.kept b q).2.2 st _ hlv how hb)
 have he : Ext g w { g with ok := ok' } w' := ⟨h1, fun _ _ q => q, fun _ _ q => q, fun c o q => by
  by_cases hc : c = b
  ·subst hc; exact hcell o q
  ·exact World.cell?_of_block (hot c hc), fun c q => ⟨q, hpr c q⟩, fun _ _ q => q, fun _ _ _ => rfl, fun c q => ⟨q, hkp c q, fun o q' => (h2 c o q').resolve_right (fun e => by rw [e] at q; exact (h.kept b q).2.2 st _ hlv how hb), fun q => q⟩, Nat.le_of_eq hs.symm⟩
 refine ⟨⟨h.below.trans ⟨hos.1, hos.2.1, hos.2.2, by omega, fun k hk => hot k (by omega)⟩, by rw [hs]; exact h.hbs, ?_, ?_, ?_, h.inj, ?_, fun s s' x x' c q q' => h.rinj s s' x x' c q.1 q'.1, h.fresh, fun c q => ⟨by rw [hs]; exact (h.prot c q).1, (h.prot c q).2.1, fun s x hs' => (h.prot c q).2.2 s x hs'.1⟩, fun v L q => (h.iter v L q).ext (by omega) (fun c q => ⟨q, hpr c q⟩), fun c q => ⟨by rw [hs]; exact (h.kept c q).1, (h.kept c q).2.1, fun s x hs' => (h.kept c q).2.2 s x hs'.1⟩, h.prb⟩, he⟩
 ·intro c o q
  rw [hs]
  rcases h2 c o q with q | q
  ·exact h.okb c o q
  ·subst q; exact .inr ⟨l1, l2⟩
 ·intro i cs c q q1
  exact (h.box i cs c q q1).ext he (hot c (fun e => by rw [e] at q1; exact hnb i q1))
 ·intro i c q
  obtain ⟨q1, q2, q3, q4⟩ := h.dom i c q
  refine ⟨q1, q2, by omega, fun o q5 => ?_⟩
  rcases h2 c o q5 with q6 | q6
  ·exact q4 o q6
  ·rw [q6] at q; exact hnb i q
 ·rintro s ⟨hs', hne⟩
  obtain ⟨u, e2, len2, ys, r1, r2, r3⟩ := h.row s hs'
  have hnb' : u.ownBlock ≠ some b := fun q => hne (h.rinj s st _ _ b hs' hlv r1 how q hb)
  refine ⟨u, e2, len2, ys, r1, r2.kept (row := some b) ⟨hos.1, hos.2.1, hos.2.2, by omega, fun k _ hk => hot k (fun e => hk (by rw [e]))⟩ (.inr hnb'), fun c hc => ⟨fun o q => ?_, (r3 c hc).2⟩⟩
  rcases h2 c o q with q | q
  ·exact (r3 c hc).1 o q
  ·rw [q] at hc; exact absurd hc hnb'
end

end Go.Proofs.Ytmglacjcefajlaa

/- append, boxes, rows, stores: the operations run. Over any program. -/
namespace Go.Proofs.Ytmglacjcefajlaa
open Go.RowKit

section
variable {P : Program} {base : Nat} {w0 : World} {ok0 : Gh} {g : Gh} {bx : Nat → Option (List D)} {K lv : Nat → Prop} {w w' : World} {ρ : Operand → Value} {o : Oper}

set_option maxHeartbeats 1000000 in
theorem append_sound (h : RW P base w0 ok0 g bx K lv w) {t ty e : TypeId} {i : TypeInfo} {z : Value} (hu : P.underlying t = some (.slice e)) (hi : P.info? e = some i) (hz : i.zero = some z) (hzs : z.cells.size = i.size) (hpos : 0 < i.size)
  {q q2 : Own} {n s : Nat} {l l2 : List D} {v x : Value} (hv : val w g (.slice q n l) v) (hx : val w g (.slice q2 i.size l2) x) (hl2 : l2 ≠ []) (hq : (q = .nil ∧ l = []) ∨ (∃ st, q = .own st e ∧ lv st ∧ n = i.size) ∨ (q = .clip ∧ (l = [] ∨ n = i.size))) (hs : ¬ K s)
  (h63 : l.length + l2.length ≤ maxLen) (hby : (l.length + l2.length) * i.bytes ≤ 140737488355328) :
  ∃ v' w' g', (Builtin.append_ #[t, t] ty #[v, x]).run P w = .ok v' w' ∧ RW P base w0 ok0 g' bx (fun j => K j ∨ j = s) (fun j => (lv j ∧ q ≠ .own j e) ∨ j = s) w' ∧ Ext g w g' w' ∧ val w' g' (.slice (.own s e) i.size (l ++ l2)) v' := by
 have hsz : P.cellsOf e = i.size := by unfold Program.cellsOf; rw [hi]; rfl
 obtain ⟨A, cap, cs, rfl, hlc, hm, how, hnil, hA, hr, hn, hc⟩ := val_slice hv
 obtain ⟨A2, cap2, cs2, rfl, hlc2, hm2, _, _, hA2, hr2, hn2, hc2⟩ := val_slice hx
 have hlen2 : 0 < l2.length := List.length_pos_iff.2 hl2
 obtain ⟨b2, off2, rfl, _⟩ := hc2 0 hlen2
 -- the new cells
 have hnl := flat_len cs2 i.size l2.length 0 (fun k _ hk => hn2 k (by omega))
 have hnews : ∀ k u, ((List.range' 0 l2.length).flatMap cs2)[k]? = some u → w.cell? ((⟨b2, off2, none⟩ : Addr).add k) = some u := by
  intro k u hk
  have hlt := (List.getElem?_eq_some_iff.1 hk).1
  rw [hnl] at hlt
  obtain ⟨j, r, hj, hr', rfl⟩ := flat_split hlt
  rw [flat_at cs2 i.size l2.length 0 j r (fun k _ hk => hn2 k (by omega)) hj hr', Nat.zero_add] at hk
  obtain ⟨b', off', e', hcl⟩ := hc2 j hj
  cases e'
  rw [addr_plus, ← Nat.add_assoc]
  exact (hcl r u hk).2
 have hone : ∀ u ∈ (List.range' 0 l2.length).flatMap cs2, u.oneCell' = true := by
  intro u hu'
  obtain ⟨k, _, hk, hu''⟩ := flat_mem cs2 hu'
  exact (hr2 k (by omega)).one u hu''
 -- what is left to show, whichever way
 have fin : ∀ (v' : Value) (w' : World) (g1 : Gh) (xs : List Value) (lv1 : Nat → Prop), RW P base w0 ok0 g1 bx K lv1 w' → Ext g w g1 w' → w'.ownsRow base e i.size v' (l.length + l2.length) (xs ++ (List.range' 0 l2.length).flatMap cs2) →
   (∀ b, v'.ownBlock = some b → (∀ o, g1.ok b o ↔ o < (l.length + l2.length) * i.size) ∧ (∀ j, g1.β j ≠ some b) ∧ (∀ s' y, lv1 s' → g1.ow s' = some y → y.1.ownBlock ≠ some b) ∧ ¬ g1.pr b ∧ ¬ g1.kp b) → (∀ j, (lv j ∧ q ≠ .own j e) → lv1 j) →
   xs.length = l.length * i.size → (∀ j r u, j < l.length → (cs j)[r]? = some u → xs[j * i.size + r]? = some u) → (l ≠ [] → n = i.size) →
   ∃ g', RW P base w0 ok0 g' bx (fun j => K j ∨ j = s) (fun j => (lv j ∧ q ≠ .own j e) ∨ j = s) w' ∧ Ext g w g' w' ∧ val w' g' (.slice (.own s e) i.size (l ++ l2)) v' := by
  intro v' w' g1 xs lv1 hw1 e1 ho hk hlv1 hxl hxs hne
  obtain ⟨h2, e2⟩ := hw1.addRow (s := s) (v := v') (e := e) hs (by rw [hsz]; exact ho) (fun b hb => by
   obtain ⟨k1, k2, k3, k4⟩ := hk b hb
   exact ⟨fun o q => by rw [hsz]; exact (k1 o).1 q, k2, k3, k4⟩)
  refine ⟨_, h2.drop (fun j q => q.imp (hlv1 j) id), e1.trans e2, ?_⟩
  refine own_slice (base := base) (xs := xs ++ (List.range' 0 l2.length).flatMap cs2) (cs := fun j => if j < l.length then cs j else cs2 (j - l.length)) (by rw [zla]; exact ho) (by show (if s = s then _ else _) = _; rw [if_pos rfl]) ?_ ?_ ?_ ?_ (.inl (by simp [hl2]))
  ·intro b hb o ho'
   rw [zla] at ho'
   exact ((hk b hb).1 o).2 ho'
  ·intro j hj
   by_cases hjl : j < l.length
   ·rw [if_pos hjl, List.getElem_append_left hjl]; exact (hr j hjl).ext (e1.trans e2)
   ·rw [if_neg hjl, List.getElem_append_right (by omega)]
    exact (hr2 _ (by rw [zla] at hj; omega)).ext (e1.trans e2)
  ·intro j hj
   by_cases hjl : j < l.length
   ·rw [if_pos hjl, hn j hjl]; exact hne (fun e => by rw [e] at hjl; simp at hjl)
   ·rw [if_neg hjl]; exact hn2 _ (by rw [zla] at hj; omega)
  ·intro j r u hj hu'
   by_cases hjl : j < l.length
   ·rw [if_pos hjl] at hu'
    have := hxs j r u hjl hu'
    rw [List.getElem?_append_left (List.getElem?_eq_some_iff.1 this).1]; exact this
   ·rw [if_neg hjl] at hu'
    have hj2 : j - l.length < l2.length := by rw [zla] at hj; omega
    have hr' : r < i.size := by rw [← hn2 _ hj2]; exact (List.getElem?_eq_some_iff.1 hu').1
    have e4 : j * i.size = l.length * i.size + (j - l.length) * i.size := by rw [← Nat.add_mul]; congr 1; omega
    rw [List.getElem?_append_right (by rw [hxl]; omega), hxl, show j * i.size + r - l.length * i.size = (j - l.length) * i.size + r from by omega,
     flat_at cs2 i.size l2.length 0 _ r (fun k _ hk => hn2 k (by omega)) hj2 hr', Nat.zero_add]
    exact hu'
 -- a new row
 have fresh : ∀ (v' : Value) (w' : World) (xs : List Value), w.grownBy w' none → w'.ownsRow base e i.size v' (l.length + l2.length) (xs ++ (List.range' 0 l2.length).flatMap cs2) → (∀ b, v'.ownBlock = some b → w.heap.size ≤ b) →
   xs.length = l.length * i.size → (∀ j r u, j < l.length → (cs j)[r]? = some u → xs[j * i.size + r]? = some u) → (l ≠ [] → n = i.size) →
   ∃ g', RW P base w0 ok0 g' bx (fun j => K j ∨ j = s) (fun j => (lv j ∧ q ≠ .own j e) ∨ j = s) w' ∧ Ext g w g' w' ∧ val w' g' (.slice (.own s e) i.size (l ++ l2)) v' := by
  intro v' w' xs hg ho hnew hxl hxs hne
  have hb : Below w.heap.size w w' := ⟨hg.os, hg.tape, hg.output, hg.size, fun k hk => hg.block k hk (by simp)⟩
  obtain ⟨h1, e1⟩ := h.grow hb (ok' := fun b o => g.ok b o ∨ (v'.ownBlock = some b ∧ o < (l.length + l2.length) * i.size)) (fun _ _ q => .inl q) (fun b o q => q.imp id (fun q => ⟨hnew b q.1, (ho.lt b q.1).2⟩))
  refine fin v' w' _ xs lv h1 e1 ho (fun b hb' => ⟨fun o => ⟨fun q => ?_, fun q => .inr ⟨hb', q⟩⟩, fun j q => ?_, fun s' y hs' hy q => ?_, fun q => ?_, fun q => ?_⟩) (fun j q => q.1) hxl hxs hne
  ·rcases q with q | q
   ·have := h.ok_lt q; have := hnew b hb'; omega
   ·exact q.2
  ·have := (h.dom j b q).2.2.1; have := hnew b hb'; omega
  ·obtain ⟨v2, e2, len, ys, q1, q2, _⟩ := h.row s' hs'
   have hy' : g.ow s' = some y := hy
   rw [hy'] at q1
   cases q1
   have := (q2.lt _ q).2; have := hnew b hb'; omega
  ·have := (h.prot b q).1; have := hnew b hb'; omega
  ·have := (h.kept b q).1; have := hnew b hb'; omega
 -- nothing there yet
 have hnilcase : A = none → cap = 0 → l = [] → ∃ v' w' g', (Builtin.append_ #[t, t] ty #[.slice A l.length cap, .slice (some ⟨b2, off2, none⟩) l2.length cap2]).run P w = .ok v' w' ∧ RW P base w0 ok0 g' bx (fun j => K j ∨ j = s) (fun j => (lv j ∧ q ≠ .own j e) ∨ j = s) w' ∧ Ext g w g' w' ∧ val w' g' (.slice (.own s e) i.size (l ++ l2)) v' := by
  intro hA0 hc0 hl0
  subst hA0
  subst hl0
  subst hc0
  obtain ⟨v', w', hrun, ho, hg, hiff, hat⟩ := run_append_own_at (P := P) w base t ty e i z i.size i.bytes hu hi hz rfl rfl hzs hpos (.slice none 0 0) 0 [] (World.ownsRow_nil w base e i.size) ⟨b2, off2, none⟩ l2.length cap2 _ hnl hnews hone (by simpa using h63) (by simpa using hby) h.hbs
  obtain ⟨g', r1, r2, r3⟩ := fresh v' w' [] hg (by simpa using ho) (fun b hb => by
   rcases hat with q | q
   ·rw [hb] at q; cases q
   ·rw [hb] at q; cases q; exact Nat.le_refl _) (by simp) (fun j r u hj => absurd hj (Nat.not_lt_zero _)) (fun e => absurd rfl e)
  exact ⟨v', w', g', hrun, r1, r2, r3⟩
 rcases hq with ⟨rfl, rfl⟩ | ⟨st, rfl, hst, rfl⟩ | ⟨rfl, hn0⟩
 ·exact hnilcase hnil.1 hnil.2 rfl
 ·have how' := how st e rfl
  obtain ⟨v1, e1, len, xs, q1, q2, q3⟩ := h.row st hst
  rw [how'] at q1
  cases q1
  rw [hsz] at q2 q3
  have q2' := q2
  rcases q2.2 with ⟨hv0, hl0⟩ | ⟨b, cap', cur, hve, hbb, hg, hnc, hcm, hcs, htake⟩
  ·simp only [Value.slice.injEq] at hv0
   exact hnilcase hv0.1 hv0.2.2 (List.eq_nil_of_length_eq_zero hv0.2.1)
  ·simp only [Value.slice.injEq] at hve
   obtain ⟨rfl, hve2, hve3⟩ := hve
   subst hve2
   subst hve3
   have hxs : ∀ j r u, j < l.length → (cs j)[r]? = some u → xs[j * i.size + r]? = some u := by
    intro j r u hj hu'
    obtain ⟨b', off', e', hcl⟩ := hc j hj
    cases e'
    have hcell := (hcl r u hu').2
    have hrl : r < i.size := by rw [← hn j hj]; exact (List.getElem?_eq_some_iff.1 hu').1
    have hlt : j * i.size + r < xs.length := by
     rw [q2'.1]
     have : (j + 1) * i.size ≤ l.length * i.size := Nat.mul_le_mul_right _ hj
     rw [Nat.add_mul] at this; omega
    have h3 := q2'.cells (g := b) rfl _ _ (List.getElem?_eq_getElem hlt)
    rw [addr_plus] at h3
    rw [show 0 + j * i.size + r = 0 + (j * i.size + r) from by omega] at hcell
    rw [hcell] at h3
    cases h3
    exact List.getElem?_eq_getElem hlt
   by_cases hroom : l.length + l2.length ≤ cap
   ·have hfit : l.length * i.size + ((List.range' 0 l2.length).flatMap cs2).length ≤ cur.size := by
     rw [hnl, hcs, ← Nat.add_mul]; exact Nat.mul_le_mul_right _ hroom
    have hrun := run_append_room (P := P) w t ty e i hu hi b l.length cap cur hg ⟨b2, off2, none⟩ l2.length cap2 _ hnl hnews hone hroom hfit
    have hcell : ∀ o, g.ok b o → (w.setRow b (cur.toList.take (l.length * i.size) ++ (List.range' 0 l2.length).flatMap cs2 ++ cur.toList.drop (l.length * i.size + ((List.range' 0 l2.length).flatMap cs2).length)).toArray).cell? ⟨b, o, none⟩ = w.cell? ⟨b, o, none⟩ := by
     intro o ho
     have hlt := (q3 b rfl).1 o ho
     rw [cell_of_row _ _ _ _ _ _ (setRow_heap w b cur _ e (0, 0) hg), cell_of_row _ _ _ _ _ _ hg]
     simp only [List.getElem?_toArray]
     rw [zaa, List.getElem?_append_left (by simp; omega), List.getElem?_take, if_pos hlt]
     simp
    obtain ⟨h1, e1⟩ := h.rowPut (w' := w.setRow b (cur.toList.take (l.length * i.size) ++ (List.range' 0 l2.length).flatMap cs2 ++ cur.toList.drop (l.length * i.size + ((List.range' 0 l2.length).flatMap cs2).length)).toArray) (ok' := fun c o => g.ok c o ∨ (c = b ∧ o < (l.length + l2.length) * i.size)) hst how' rfl (by simp) (fun c hc => setRow_other w b c _ hc) ⟨rfl, rfl, rfl⟩ hcell (fun _ _ q => .inl q) (fun c o q => q.imp id (fun q => q.1))
    have hown : (w.setRow b (cur.toList.take (l.length * i.size) ++ (List.range' 0 l2.length).flatMap cs2 ++ cur.toList.drop (l.length * i.size + ((List.range' 0 l2.length).flatMap cs2).length)).toArray).ownsRow base e i.size (.slice (some ⟨b, 0, none⟩) (l.length + l2.length) cap) (l.length + l2.length) (xs ++ (List.range' 0 l2.length).flatMap cs2) := by
     refine ⟨by rw [zla, q2'.1, hnl, ← Nat.add_mul], .inr ⟨b, cap, _, rfl, hbb, setRow_heap w b cur _ e (0, 0) hg, hroom, hcm, ?_, ?_⟩⟩
     ·simp only [List.size_toArray, zla, List.length_take, List.length_drop, Array.length_toList]
      omega
     ·rw [htake, List.take_append_of_le_length (by rw [zla, q2'.1, hnl, ← Nat.add_mul]; exact Nat.le_refl _), List.take_of_length_le (by rw [zla, q2'.1, hnl, ← Nat.add_mul]; exact Nat.le_refl _)]
    obtain ⟨g', r1, r2, r3⟩ := fin _ _ _ xs (fun j => lv j ∧ j ≠ st) h1 e1 hown (fun c hc' => by
     obtain rfl : b = c := by simpa [Value.ownBlock] using hc'
     refine ⟨fun o => ⟨fun q => ?_, fun q => .inr ⟨rfl, q⟩⟩, (q3 b rfl).2, fun s' y hs' hy q => hs'.2 (h.rinj s' st y _ b hs'.1 hst hy how' q rfl), fun q => (h.prot b q).2.2 st _ hst how' rfl, fun q => (h.kept b q).2.2 st _ hst how' rfl⟩
     rcases q with q | q
     ·have := (q3 b rfl).1 o q; rw [Nat.add_mul]; omega
     ·exact q.2) (fun j q => ⟨q.1, fun e' => q.2 (by rw [e'])⟩) q2'.1 hxs (fun _ => rfl)
    exact ⟨_, _, g', hrun, r1, r2, r3⟩
   ·obtain ⟨v', w', hrun, ho, hg'⟩ := run_append_arg_grows (P := P) w t ty e i z i.size i.bytes hu hi hz rfl rfl hzs hpos ⟨b, 0, none⟩ l.length cap xs q2'.1 (q2'.cells (g := b) rfl) ⟨b2, off2, none⟩ l2.length cap2 _ hnl hnews (by omega) h63 hby
    have ho' : w'.ownsRow base e i.size v' (l.length + l2.length) (xs ++ (List.range' 0 l2.length).flatMap cs2) := by
     refine ⟨ho.1, ho.2.imp id ?_⟩
     rintro ⟨b', c', cur', r1, r2, r3⟩
     exact ⟨b', c', cur', r1, Nat.le_trans h.hbs r2, r3⟩
    obtain ⟨g', r1, r2, r3⟩ := fresh v' w' xs hg' ho' (fun b hb => (ho.lt b hb).1) q2'.1 hxs (fun _ => rfl)
    exact ⟨v', w', g', hrun, r1, r2, r3⟩
 ·have hcap : cap = l.length := hnil
  have hne : l ≠ [] → n = i.size := fun e => hn0.resolve_left e
  cases A with
  | none =>
   have hl0 : l = [] := by
    cases hl : l with
    | nil => rfl
    | cons x r =>
     obtain ⟨_, _, q, _⟩ := hc 0 (by rw [hl]; simp)
     cases q
   exact hnilcase rfl (by rw [hcap, hl0]; rfl) hl0
  | some a =>
   have hxl := flat_len cs n l.length 0 (fun k _ hk => hn k (by omega))
   have hxl' : ((List.range' 0 l.length).flatMap cs).length = l.length * i.size := by
    rw [hxl]
    by_cases e : l = []
    ·rw [e]; simp
    ·rw [hne e]
   have hxc : ∀ k u, ((List.range' 0 l.length).flatMap cs)[k]? = some u → w.cell? (a.add k) = some u := by
    intro k u hk
    have hlt := (List.getElem?_eq_some_iff.1 hk).1
    rw [hxl] at hlt
    obtain ⟨j, r, hj, hr', rfl⟩ := flat_split hlt
    rw [flat_at cs n l.length 0 j r (fun k _ hk => hn k (by omega)) hj hr', Nat.zero_add] at hk
    obtain ⟨b', off', e', hcl⟩ := hc j hj
    cases e'
    rw [addr_plus, ← Nat.add_assoc]
    exact (hcl r u hk).2
   obtain ⟨v', w', hrun, ho, hg'⟩ := run_append_arg_grows (P := P) w t ty e i z i.size i.bytes hu hi hz rfl rfl hzs hpos a l.length cap _ hxl' hxc ⟨b2, off2, none⟩ l2.length cap2 _ hnl hnews (by omega) h63 hby
   have ho' : w'.ownsRow base e i.size v' (l.length + l2.length) ((List.range' 0 l.length).flatMap cs ++ (List.range' 0 l2.length).flatMap cs2) := by
    refine ⟨ho.1, ho.2.imp id ?_⟩
    rintro ⟨b', c', cur', r1, r2, r3⟩
    exact ⟨b', c', cur', r1, Nat.le_trans h.hbs r2, r3⟩
   obtain ⟨g', r1, r2, r3⟩ := fresh v' w' _ hg' ho' (fun b hb => (ho.lt b hb).1) hxl' (fun j r u hj hu' => by
    have e := hne (fun e => by rw [e] at hj; simp at hj)
    rw [← e, flat_at cs n l.length 0 j r (fun k _ hk => hn k (by omega)) hj (by rw [← hn j hj]; exact (List.getElem?_eq_some_iff.1 hu').1), Nat.zero_add]
    exact hu') hne
   exact ⟨v', w', g', hrun, r1, r2, r3⟩
end

end Go.Proofs.Ytmglacjcefajlaa
