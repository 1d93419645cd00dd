/- A range over a function whose iterator keeps state of its own in cells: the blocks that are the iterator's are named by a predicate O; the caller's invariant abides whatever the iterator does to them. No program in sight. -/
import Derived.RangeFuncNested
import Derived.RangeFuncBound
import Derived.RangeFuncCalls
import Derived.RangeFuncLeaves
import Derived.Shelf.Abstract
import Derived.WalkKit
import Derived.Deep.Draws
namespace Go.Proofs.Ytmglacjcefajlaa
open Go.RowKit Go.Shelf

/-- the iterator's own step: it turns its own blocks alone, and lays new ones, of which it may keep some -/
structure Moves (B : Nat) (O O' : Nat → Prop) (W W' : World) : Prop where
 os : W'.os = W.os
 tape : W'.tape = W.tape
 output : W'.output = W.output
 size : W.heap.size ≤ W'.heap.size
 sub : ∀ b, O b → O' b
 new : ∀ b, O' b → O b ∨ W.heap.size ≤ b
 lt : ∀ b, O' b → b < W'.heap.size
 block : ∀ b, b < W.heap.size → ¬ O' b → W'.heap[b]? = W.heap[b]?
 fix : ∀ b, b < B → W'.heap[b]? = W.heap[b]?

/-- whatever the iterator does to its own blocks, none of which lies below B -/
def Abides {β : Type} (B : Nat) (I : β → (Nat → Prop) → World → Prop) : Prop := ∀ s O O' W W', I s O W → Moves B O O' W W' → I s O' W'
theorem Moves.less {B B' : Nat} {O O' : Nat → Prop} {W W' : World} (h : Moves B' O O' W W') (hB : B ≤ B') : Moves B O O' W W' := ⟨h.os, h.tape, h.output, h.size, h.sub, h.new, h.lt, h.block, fun b hb => h.fix b (by omega)⟩
/-- what a round keeps: the blocks in O lie as they lay; no block has gone -/
structure KeepsO (O : Nat → Prop) (W W' : World) : Prop where
 size : W.heap.size ≤ W'.heap.size
 block : ∀ b, O b → W'.heap[b]? = W.heap[b]?

theorem KeepsO.trans {O : Nat → Prop} {A B C : World} (h : KeepsO O A B) (k : KeepsO O B C) : KeepsO O A C := ⟨Nat.le_trans h.size k.size, fun b hb => (k.block b hb).trans (h.block b hb)⟩
theorem KeepsO.of_below {O : Nat → Prop} {A B : World} (h : Below A.heap.size A B) (hO : ∀ b, O b → b < A.heap.size) : KeepsO O A B := ⟨h.size, fun b hb => h.block b (hO b hb)⟩
theorem KeepsO.lt {O : Nat → Prop} {A B : World} (h : KeepsO O A B) (hO : ∀ b, O b → b < A.heap.size) : ∀ b, O b → b < B.heap.size := fun b hb => Nat.lt_of_lt_of_le (hO b hb) h.size
/-- new blocks, of which the iterator keeps those in X -/
theorem Moves.keep {Z : Nat} {O X : Nat → Prop} {A B : World} (h : Below A.heap.size A B) (hO : ∀ b, O b → b < A.heap.size) (hX : ∀ b, X b → A.heap.size ≤ b ∧ b < B.heap.size) (hZ : Z ≤ A.heap.size) : Moves Z O (fun b => O b ∨ X b) A B :=
 ⟨h.os, h.tape, h.output, h.size, fun _ h => .inl h, fun b hb => hb.elim .inl fun e => .inr (hX b e).1, fun b hb => hb.elim (fun e => Nat.lt_of_lt_of_le (hO b e) h.size) fun e => (hX b e).2, fun b hb _ => h.block b hb, fun b hb => h.block b (by omega)⟩
theorem Moves.setCell {Z : Nat} {O : Nat → Prop} {A : World} (hO : ∀ b, O b → b < A.heap.size) {p : Addr} (hp : O p.block) (v : Value) (hZ : Z ≤ p.block) : Moves Z O O A (A.setCell p v) :=
 ⟨rfl, rfl, rfl, by simp [World.setCell], fun _ h => h, fun _ h => .inl h, fun b hb => by simpa [World.setCell] using hO b hb, fun b _ hn => Below.heap_setCell _ _ _ _ (fun e => hn (e ▸ hp)), fun b hb => Below.heap_setCell _ _ _ _ (fun e => by omega)⟩
theorem Moves.putObj {Z : Nat} {O : Nat → Prop} {A : World} (hO : ∀ b, O b → b < A.heap.size) {l : Nat} (hl : O l) (o : Obj) (hZ : Z ≤ l) : Moves Z O O A (A.putObj l o) :=
 ⟨rfl, rfl, rfl, by simp, fun _ h => h, fun _ h => .inl h, fun b hb => by simpa using hO b hb, fun b _ hn => World.putObj_heap_other (fun e => hn (e ▸ hl)), fun b hb => World.putObj_heap_other (by omega)⟩
theorem RoundIn.anyD {m m' : Nat} {P : Program} {l : Nat} {f : FuncId} {tmps : Array Value} {assign body : Code} {w : World} {R : Ending → World → Prop}
  (h : RoundIn Fence.wide m P l f tmps assign body w R) : RoundIn Fence.wide m' P l f tmps assign body w R := ⟨h.1, fun c cs _ => h.2 c cs (room_wide _)⟩

/-- what an iterator gives: the elements of L, one after another, to whatever round keeps its blocks; an element lies in blocks X, which it gives up -/
def Iter {α : Type} (P : Program) (gf : Nat) (lb : Array Value) (encs : α → (Nat → Prop) → World → Array Value → Prop) (L : List α) (O₀ : Nat → Prop) (w₀ : World) : Prop :=
 ∀ (n l : Nat) (J Jx : List α → (Nat → Prop) → World → Prop) (W : World), w₀.heap.size ≤ W.heap.size → (∀ b, O₀ b → W.heap[b]? = w₀.heap[b]?) → Abides W.heap.size J →
  (∀ m pre x O X args W1, (pre ++ [x]) <+: L → J pre (fun b => O b ∨ X b) W1 → (∀ b, X b → W.heap.size ≤ b ∧ ¬ O b) → encs x X W1 args → YieldAt .wide m P l args W1 fun e W' =>
   (e = .returned (.bool true) ∧ J (pre ++ [x]) O W' ∧ KeepsO O W1 W') ∨ (e = .returned (.bool false) ∧ Jx (pre ++ [x]) O W')) →
  J [] O₀ W →
  CallsIn .wide n P gf (#[.func (.yield l) #[] #[]] ++ lb) W fun e W' => (∃ v, e = .returned v) ∧ ((∃ O', J L O' W') ∨ (∃ pre O', pre <+: L ∧ Jx pre O' W'))

/-- how a round may be left -/
def postO {α : Type} (I : List α → (Nat → Prop) → World → Prop) (Ix : Code → List α → (Nat → Prop) → World → Prop) (xs : List α) (O : Nat → Prop) (W : World) : Exit → Act → World → Prop
 | .normal, _, W' => KeepsO O W W' ∧ I xs O W'
 | .ret, _, W' => KeepsO O W W' ∧ Ix .ret xs O W'
 | .exit id, _, W' => KeepsO O W W' ∧ Ix (.exit id) xs O W'
 | .goto t, _, W' => KeepsO O W W' ∧ Ix (.goto t) xs O W'
 | .panic _, _, _ => False
 | .outgrown, _, _ => False

/-- the iterator's blocks and the loop's own two -/
def ext (O : Nat → Prop) (D : Nat) : Nat → Prop := fun b => O b ∨ b = D ∨ b = D + 1

theorem Moves.ext {Z : Nat} {O O' : Nat → Prop} {A B : World} (D : Nat) (h : Moves Z O O' A B) (hD : D + 1 < A.heap.size) : Moves Z (ext O D) (ext O' D) A B :=
 ⟨h.os, h.tape, h.output, h.size, fun b hb => hb.elim (fun e => .inl (h.sub b e)) .inr, fun b hb => by
  rcases hb with e | e
  ·exact (h.new b e).elim (fun e => .inl (.inl e)) .inr
  ·exact .inl (.inr e), fun b hb => by
  rcases hb with e | e
  ·exact h.lt b e
  ·have := h.size; omega, fun b hb hn => h.block b hb (fun e => hn (.inl e)), h.fix⟩

theorem wpIn_rangeFunc_O {α : Type} {n : Nat} {P : Program} {g : Operand} {ps : Array Tmp} {assign body : Code} {Q : Exit → Act → World → Prop} {a : Act} {w : World}
  {gf : Nat} {lb : Array Value} (hg : a.eval g = .func (.func gf) #[] lb) (eg : ∀ args w, (callFunc gf args).run P w = .ok (.enter gf args) w)
  {encs : α → (Nat → Prop) → World → Array Value → Prop} {L : List α} {O₀ : Nat → Prop} (hO₀ : ∀ b, O₀ b → b < w.heap.size) (hseq : Iter P gf lb encs L O₀ w)
  (I : List α → (Nat → Prop) → World → Prop) (Ix : Code → List α → (Nat → Prop) → World → Prop) (hI : Abides w.heap.size I) (hIx : ∀ c, Abides w.heap.size (Ix c)) (hlt : ∀ s O W, I s O W → ∀ b, O b → b < W.heap.size)
  (hltx : ∀ c s O W, Ix c s O W → ∀ b, O b → b < W.heap.size) (h0 : I [] O₀ w)
  (hps : ∀ (pre : List α) (x : α) (O X : Nat → Prop) (W : World) (args : Array Value), (pre ++ [x]) <+: L → I pre (fun b => O b ∨ X b) W → encs x X W args → args.size = ps.size)
  (Ax : List α → α → Array Value → (Nat → Prop) → Act → World → Prop) (hAx : ∀ pre x args a', Abides w.heap.size (fun (_ : Unit) O W => Ax pre x args O a' W)) (hltA : ∀ pre x args O a' W, Ax pre x args O a' W → ∀ b, O b → b < W.heap.size)
  (hassign : ∀ (l : Nat) (pre : List α) (x : α) (args : Array Value) (O X : Nat → Prop) (W : World) (K : Act → World → Prop), (pre ++ [x]) <+: L → I pre (fun b => O b ∨ X b) W → (∀ b, X b → w.heap.size ≤ b ∧ ¬ O b) → encs x X W args → (∀ a' W', KeepsO O W W' → Ax pre x args O a' W' → K a' W') →
   assign.wpIn (Fence.wide.inRound l) n P (Exit.then K (fun _ _ _ => False)) { tmps := (ps.zip args).foldl (fun t (p, v) => t.setIfInBounds p v) a.tmps, defers := [] } W)
  (hbody : ∀ (l : Nat) (pre : List α) (x : α) (args : Array Value) (O : Nat → Prop) (a' : Act) (W : World), (pre ++ [x]) <+: L → Ax pre x args O a' W → body.wpIn (Fence.wide.inRound l) n P (postO I Ix (pre ++ [x]) O W) a' W)
  (hdone : ∀ (D : Nat) (O : Nat → Prop) (W : World), O D → w.heap.size ≤ D → I L O W → W.heap[D]? = some (.deferred (some [])) → Q .normal { a with defers := { target := .collected D, args := #[] } :: a.defers } W)
  (hstop : ∀ (D : Nat) (c : Code) (pre : List α) (O : Nat → Prop) (W : World), O D → w.heap.size ≤ D → pre <+: L → Ix c pre O W → W.heap[D]? = some (.deferred (some [])) → c.wpIn .wide n P Q { a with defers := { target := .collected D, args := #[] } :: a.defers } W) :
  (Code.rangeFunc g ps assign body).wpIn .wide n P Q a w := by
 refine wpIn_rangeFunc ?_
 intro fn hfn
 obtain ⟨rec, hrec⟩ : ∃ rec : LoopState → Option Code → Loop, rec = fun st pe => { state := st, pending := pe, fn, tmps := a.tmps, params := ps, assign, body, defers := w.heap.size } := ⟨_, rfl⟩
 obtain ⟨W1, hW1⟩ : ∃ W1, (w.alloc (.deferred (some []))).alloc (.loop (rec .ready none)) = W1 := ⟨_, rfl⟩
 have hL1 : W1.heap[w.heap.size + 1]? = some (.loop (rec .ready none)) := by
  rw [← hW1]; have := World.alloc_heap_new (w.alloc (.deferred (some []))) (.loop (rec .ready none)); rwa [World.size_alloc] at this
 have hK1 : W1.heap[w.heap.size]? = some (.deferred (some [])) := by
  rw [← hW1]; exact (Below.heap_alloc _ _ _ (by simp)).trans (World.alloc_heap_new w _)
 have hb1 : Below w.heap.size w W1 := by
  rw [← hW1]; exact ((Below.refl _ w).alloc (Nat.le_refl _) _).alloc (by simp) _
 have hs1 : W1.heap.size = w.heap.size + 2 := by rw [← hW1]; simp
 have hI1 : I [] (ext O₀ w.heap.size) W1 := by
  have := hI [] O₀ (fun b => O₀ b ∨ (b = w.heap.size ∨ b = w.heap.size + 1)) w W1 h0 (Moves.keep hb1 hO₀ (fun b hb => by omega) (Nat.le_refl _))
  exact this
 refine ⟨w.heap.size + 1, [{ target := .collected w.heap.size, args := #[] }], W1, { target := .fn (.func gf) lb, args := #[.func (.yield (w.heap.size + 1)) #[] #[]] }, W1, gf,
  #[.func (.yield (w.heap.size + 1)) #[] #[]] ++ lb, W1, ?_, ?_, ?_, ?_, fun h => by simp [Fence.wide] at h, ?_⟩
 ·rw [← hW1, hrec]; exact run_enterLoop_outer _ _ _ _ _
 ·simp only [resolve, hg]
  simp [go_sem]
 ·intro f' _; trivial
 ·simp [invoke, go_sem, eg]
 ·refine (hseq (n - 1) (w.heap.size + 1)
   (fun pre O W => I pre (ext O w.heap.size) W ∧ W.heap[w.heap.size + 1]? = some (.loop (rec .ready none)) ∧ W.heap[w.heap.size]? = some (.deferred (some [])) ∧ ¬ O w.heap.size ∧ ¬ O (w.heap.size + 1))
   (fun pre O W => ∃ c, Ix c pre (ext O w.heap.size) W ∧ W.heap[w.heap.size + 1]? = some (.loop (rec .done (some c))) ∧ W.heap[w.heap.size]? = some (.deferred (some [])) ∧ ¬ O w.heap.size ∧ ¬ O (w.heap.size + 1))
   W1 hb1.size (fun b hb => hb1.block b (hO₀ b hb)) ?_ ?_ ⟨hI1, hL1, hK1, fun e => by have := hO₀ _ e; omega, fun e => by have := hO₀ _ e; omega⟩).mono ?_
  ·rintro pre O O' A B ⟨hi, hl, hk, n1, n2⟩ hm
   have hlt1 := (Array.getElem?_eq_some_iff.1 hl).1
   have q1 : ¬ O' w.heap.size := fun e => (hm.new _ e).elim n1 (fun e => by omega)
   have q2 : ¬ O' (w.heap.size + 1) := fun e => (hm.new _ e).elim n2 (fun e => by omega)
   exact ⟨hI _ _ _ _ _ hi ((hm.less (by omega)).ext w.heap.size hlt1), (hm.block _ hlt1 q2).trans hl, (hm.block _ (by omega) q1).trans hk, q1, q2⟩
  ·rintro m pre x O X args W hpre ⟨hi, hl, hk, n1', n2'⟩ hX henc
   have n1 : ¬ O w.heap.size := fun e => n1' (.inl e)
   have n2 : ¬ O (w.heap.size + 1) := fun e => n2' (.inl e)
   have hlt1 : w.heap.size + 1 < W.heap.size := (Array.getElem?_eq_some_iff.1 hl).1
   have hX' : ∀ b, X b → w.heap.size ≤ b ∧ ¬ ext O w.heap.size b := by
    intro b hb
    have h1 := hX b hb
    refine ⟨by omega, fun e => ?_⟩
    rcases e with e | e | e
    ·exact h1.2 e
    ·omega
    ·omega
   have hi' : I pre (fun b => ext O w.heap.size b ∨ X b) W := by
    have e : (fun b => ext O w.heap.size b ∨ X b) = ext (fun b => O b ∨ X b) w.heap.size := by
     funext b; simp only [ext, eq_iff_iff]; constructor <;> (rintro h; rcases h with (h | h) | h <;> simp [h])
    rw [e]; exact hi
   have hy := run_yield (P := P) (args := args) hl (by rw [hrec]; exact hps _ _ _ _ _ _ hpre hi' henc)
   rw [hrec] at hy
   have hD : ext O w.heap.size w.heap.size := .inr (.inl rfl)
   have hl' : ext O w.heap.size (w.heap.size + 1) := .inr (.inr rfl)
   refine ⟨fn, _, assign, body, hy, RoundIn.anyD (m := n) ?_⟩
   refine roundIn_of_wpIn (n := n) hfn (hassign _ pre x args _ X W _ hpre hi' hX' henc ?_)
   intro a' Wa hka hax
   have hla := (hka.block _ hl').trans hl
   have hkka := (hka.block _ hD).trans hk
   have hlta : w.heap.size + 1 < Wa.heap.size := (Array.getElem?_eq_some_iff.1 hla).1
   refine ⟨_, run_beginRound hla (by rw [hrec]), ?_⟩
   have hl2 : (Wa.putObj (w.heap.size + 1) (.loop { rec .ready none with state := .busy })).heap[w.heap.size + 1]? = some (.loop { rec .ready none with state := .busy }) := World.putObj_heap_same hlta
   have hk2 : (Wa.putObj (w.heap.size + 1) (.loop { rec .ready none with state := .busy })).heap[w.heap.size]? = some (.deferred (some [])) := (World.putObj_heap_other (by omega)).trans hkka
   refine wpIn_mono (hbody _ pre x args _ a' _ hpre (hAx pre x args a' () _ _ _ _ hax (Moves.putObj (hltA _ _ _ _ _ _ hax) hl' _ (by omega)))) ?_
   have fin : ∀ (jump : Option Code) (W3 : World), KeepsO (ext O w.heap.size) (Wa.putObj (w.heap.size + 1) (.loop { rec .ready none with state := .busy })) W3 →
     (Instr.endRound (w.heap.size + 1) jump).run P W3 = .ok (.bool jump.isNone) (W3.putObj (w.heap.size + 1) (.loop (rec (if jump.isNone then .ready else .done) jump))) ∧
     W3.heap[w.heap.size + 1]? = some (.loop { rec .ready none with state := .busy }) ∧
     (W3.putObj (w.heap.size + 1) (.loop (rec (if jump.isNone then .ready else .done) jump))).heap[w.heap.size + 1]? = some (.loop (rec (if jump.isNone then .ready else .done) jump)) ∧
     (W3.putObj (w.heap.size + 1) (.loop (rec (if jump.isNone then .ready else .done) jump))).heap[w.heap.size]? = some (.deferred (some [])) := fun jump W3 hk3 => by
    have hl3 := (hk3.block _ hl').trans hl2
    have := run_endRound (P := P) jump hl3
    rw [hrec] at this ⊢
    exact ⟨this, by rw [hrec] at hl3; exact hl3, World.putObj_heap_same (Array.getElem?_eq_some_iff.1 hl3).1, (World.putObj_heap_other (by omega)).trans ((hk3.block _ hD).trans hk2)⟩
   have back : ∀ (o o' : Obj) (W3 : World), KeepsO (ext O w.heap.size) (Wa.putObj (w.heap.size + 1) o) W3 → KeepsO O W (W3.putObj (w.heap.size + 1) o') := fun o o' W3 hk3 => ⟨by have h1 := hka.size; have h2 := hk3.size; simp at h2 ⊢; omega, fun b hb => by
    have hne : b ≠ w.heap.size + 1 := fun e => n2 (e ▸ hb)
    rw [World.putObj_heap_other hne, hk3.block b (.inl hb), World.putObj_heap_other hne, hka.block b (.inl hb)]⟩
   rintro e a3 W3 hp
   cases e with
   | normal =>
    obtain ⟨hk3, hi3⟩ := hp
    obtain ⟨hr, hl3, hl4, hk4⟩ := fin none W3 hk3
    exact ⟨_, _, hr, .inl ⟨rfl, ⟨hI _ _ _ _ _ hi3 (Moves.putObj (hlt _ _ _ hi3) hl' _ (by omega)), hl4, hk4, n1, n2⟩, back _ _ _ hk3⟩⟩
   | ret =>
    obtain ⟨hk3, hi3⟩ := hp
    obtain ⟨hr, hl3, hl4, hk4⟩ := fin (some .ret) W3 hk3
    exact ⟨_, _, hr, .inr ⟨rfl, .ret, hIx _ _ _ _ _ _ hi3 (Moves.putObj (hltx _ _ _ _ hi3) hl' _ (by omega)), hl4, hk4, n1, n2⟩⟩
   | exit id =>
    obtain ⟨hk3, hi3⟩ := hp
    obtain ⟨hr, hl3, hl4, hk4⟩ := fin (some (.exit id)) W3 hk3
    exact ⟨_, _, hr, .inr ⟨rfl, .exit id, hIx _ _ _ _ _ _ hi3 (Moves.putObj (hltx _ _ _ _ hi3) hl' _ (by omega)), hl4, hk4, n1, n2⟩⟩
   | goto t =>
    obtain ⟨hk3, hi3⟩ := hp
    obtain ⟨hr, hl3, hl4, hk4⟩ := fin (some (.goto t)) W3 hk3
    exact ⟨_, _, hr, .inr ⟨rfl, .goto t, hIx _ _ _ _ _ _ hi3 (Moves.putObj (hltx _ _ _ _ hi3) hl' _ (by omega)), hl4, hk4, n1, n2⟩⟩
   | panic ch => exact hp.elim
   | outgrown => exact hp.elim
  ·rintro e W2 ⟨⟨v, rfl⟩, (⟨O', hi, hl, hk, n1, n2⟩ | ⟨pre, O', hpre, c, hi, hl, hk, n1, n2⟩)⟩
   ·exact ⟨none, _, by have := run_endLoop (P := P) hl (by rw [hrec]; simp); rw [hrec] at this; exact this,
     hdone _ (ext O' w.heap.size) _ (.inr (.inl rfl)) (Nat.le_refl _) (hI _ _ _ _ _ hi (Moves.putObj (hlt _ _ _ hi) (.inr (.inr rfl)) _ (by omega))) ((World.putObj_heap_other (by omega)).trans hk)⟩
   ·exact ⟨some c, _, by have := run_endLoop (P := P) hl (by rw [hrec]; simp); rw [hrec] at this; exact this,
     hstop _ c pre (ext O' w.heap.size) _ (.inr (.inl rfl)) (Nat.le_refl _) hpre (hIx _ _ _ _ _ _ hi (Moves.putObj (hltx _ _ _ _ hi) (.inr (.inr rfl)) _ (by omega))) ((World.putObj_heap_other (by omega)).trans hk)⟩

end Go.Proofs.Ytmglacjcefajlaa
