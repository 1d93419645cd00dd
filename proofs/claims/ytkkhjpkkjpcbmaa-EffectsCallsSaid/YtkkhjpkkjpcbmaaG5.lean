/- Searches in a relation of procedures; effects.Recursive. -/
import Derived.Test.YtkkhjpkkjpcbmaaG2
import Derived.Test.YtkkhjpkkjpcbmaaE7
namespace Go.Proofs.Ytkkhjpkkjpcbmaa
open Go.RowKit


/-- a path of at least one step -/
inductive Path (g : Int → List Int) : Int → Int → Prop
 | one {i j : Int} (h : j ∈ g i) : Path g i j
 | more {i j x : Int} (h : j ∈ g i) (k : Path g j x) : Path g i x
theorem Path.snoc {g : Int → List Int} {i j x : Int} (h : Path g i j) (k : x ∈ g j) : Path g i x := by
 induction h with
 | one h => exact .more h (.one k)
 | more h _ ih => exact .more h (ih k)
def loopR (t : Int) (f : Int → List Int → Bool × List Int) : List Int → List Int → Bool × List Int
 | [], V => (false, V)
 | j :: r, V => if j = t then (true, V) else if j ∈ V then loopR t f r V else if (f j (addI V j)).1 = true then f j (addI V j) else loopR t f r (f j (addI V j)).2
def reachR (g : Int → List Int) (t : Int) : Nat → Int → List Int → Bool × List Int
 | 0, _, V => (false, V)
 | n + 1, i, V => loopR t (reachR g t n) (g i) V
def loopV (f : Int → List Int → List Int) : List Int → List Int → List Int
 | [], V => V
 | j :: r, V => if j ∈ V then loopV f r V else loopV f r (f j (addI V j))
def visitR (g : Int → List Int) : Nat → Int → List Int → List Int
 | 0, _, V => V
 | n + 1, i, V => loopV (visitR g n) (g i) V
/-- a list of procedures, each at most once -/
structure InN (n : Nat) (V : List Int) : Prop where
 d : V.Nodup
 r : ∀ x ∈ V, 0 ≤ x ∧ x < (n : Int)
theorem pigeon : ∀ (n : Nat) (l : List Nat), l.Nodup → (∀ x ∈ l, x < n) → l.length ≤ n
 | 0, l, _, h => by
  cases l with
  | nil => exact Nat.le_refl _
  | cons a r => exact absurd (h a List.mem_cons_self) (Nat.not_lt_zero _)
 | n + 1, l, hd, h => by
  by_cases hm : n ∈ l
  ·have h1 := pigeon n (l.erase n) (hd.erase n) (fun x hx => by
    have h2 := (hd.mem_erase_iff).1 hx
    have := h x h2.2
    have := h2.1
    omega)
   rw [List.length_erase_of_mem hm] at h1
   omega
  ·have h1 := pigeon n l hd (fun x hx => by
    have := h x hx
    have : x ≠ n := fun e => hm (e ▸ hx)
    omega)
   omega
theorem InN.nil (n : Nat) : InN n [] := ⟨List.nodup_nil, fun _ h => by simp at h⟩
theorem InN.len {n : Nat} {V : List Int} (h : InN n V) : V.length ≤ n := by
 have h1 : (V.map Int.toNat).Nodup := List.pairwise_map.2 (h.d.imp_of_mem fun {a b} ha hb hne e => hne (by have := h.r a ha; have := h.r b hb; omega))
 have h2 := pigeon n (V.map Int.toNat) h1 (fun x hx => by
  obtain ⟨a, ha, rfl⟩ := List.mem_map.1 hx
  have := h.r a ha
  omega)
 simpa using h2
theorem InN.add {n : Nat} {V : List Int} (h : InN n V) {j : Int} (hj : 0 ≤ j ∧ j < (n : Int)) : InN n (addI V j) := ⟨addI_nodup h.d j, fun x hx => by
 rcases addI_mem.1 hx with q | rfl
 ·exact h.r x q
 ·exact hj⟩
theorem addI_new {V : List Int} {j : Int} (h : j ∉ V) : (addI V j).length = V.length + 1 := by unfold addI; rw [if_neg h]; simp
section
variable {g : Int → List Int} {n : Nat} {t : Int}
/-- what a search leaves -/
structure Left (g : Int → List Int) (n : Nat) (V W : List Int) : Prop where
 i : InN n W
 s : ∀ x ∈ V, x ∈ W
 l : V.length ≤ W.length
theorem Left.refl {V : List Int} (h : InN n V) : Left g n V V := ⟨h, fun _ q => q, Nat.le_refl _⟩
theorem Left.trans {V W X : List Int} (h : Left g n V W) (k : Left g n W X) : Left g n V X := ⟨k.i, fun x q => k.s x (h.s x q), Nat.le_trans h.l k.l⟩
theorem Left.add {V : List Int} (h : InN n V) {j : Int} (hj : 0 ≤ j ∧ j < (n : Int)) : Left g n V (addI V j) := ⟨h.add hj, fun x q => addI_mem.2 (.inl q), by unfold addI; split <;> simp⟩
theorem loopR_left {f : Int → List Int → Bool × List Int} (hf : ∀ j V, InN n V → Left g n V (f j V).2) : ∀ (l V : List Int), (∀ j ∈ l, 0 ≤ j ∧ j < (n : Int)) → InN n V → Left g n V (loopR t f l V).2
 | [], V, _, h => .refl h
 | j :: r, V, hl, h => by
  have h1 := Left.add (g := g) h (hl j List.mem_cons_self)
  have h2 := h1.trans (hf j _ h1.i)
  have hr : ∀ k ∈ r, 0 ≤ k ∧ k < (n : Int) := fun k hk => hl k (List.mem_cons_of_mem _ hk)
  unfold loopR
  split
  ·exact .refl h
  ·split
   ·exact loopR_left hf r V hr h
   ·split
    ·exact h2
    ·exact h2.trans (loopR_left hf r _ hr h2.i)
theorem reachR_left (hg : ∀ i, ∀ j ∈ g i, 0 ≤ j ∧ j < (n : Int)) : ∀ (N : Nat) (i : Int) (V : List Int), InN n V → Left g n V (reachR g t N i V).2
 | 0, _, _, h => .refl h
 | N + 1, i, _V, h => loopR_left (fun j V h => reachR_left hg N j V h) _ _ (hg i) h
theorem loopV_left {f : Int → List Int → List Int} (hf : ∀ j V, InN n V → Left g n V (f j V)) : ∀ (l V : List Int), (∀ j ∈ l, 0 ≤ j ∧ j < (n : Int)) → InN n V → Left g n V (loopV f l V)
 | [], V, _, h => .refl h
 | j :: r, V, hl, h => by
  have h1 := Left.add (g := g) h (hl j List.mem_cons_self)
  have h2 := h1.trans (hf j _ h1.i)
  have hr : ∀ k ∈ r, 0 ≤ k ∧ k < (n : Int) := fun k hk => hl k (List.mem_cons_of_mem _ hk)
  unfold loopV
  split
  ·exact loopV_left hf r V hr h
  ·exact h2.trans (loopV_left hf r _ hr h2.i)
theorem visitR_left (hg : ∀ i, ∀ j ∈ g i, 0 ≤ j ∧ j < (n : Int)) : ∀ (N : Nat) (i : Int) (V : List Int), InN n V → Left g n V (visitR g N i V)
 | 0, _, _, h => .refl h
 | N + 1, i, _V, h => loopV_left (fun j V h => visitR_left hg N j V h) _ _ (hg i) h
theorem loopR_true {f : Int → List Int → Bool × List Int} (hf : ∀ j V, (f j V).1 = true → Path g j t) : ∀ (l V : List Int), (loopR t f l V).1 = true → ∃ j ∈ l, j = t ∨ Path g j t
 | [], V, h => by cases h
 | j :: r, V, h => by
  unfold loopR at h
  split at h
  ·rename_i e; exact ⟨j, List.mem_cons_self, .inl e⟩
  ·split at h
   ·obtain ⟨k, hk, q⟩ := loopR_true hf r V h
    exact ⟨k, List.mem_cons_of_mem _ hk, q⟩
   ·split at h
    ·rename_i q; exact ⟨j, List.mem_cons_self, .inr (hf _ _ q)⟩
    ·obtain ⟨k, hk, q⟩ := loopR_true hf r _ h
     exact ⟨k, List.mem_cons_of_mem _ hk, q⟩
theorem reachR_true : ∀ (N : Nat) (i : Int) (V : List Int), (reachR g t N i V).1 = true → Path g i t
 | 0, _, _, h => by cases h
 | N + 1, i, V, h => by
  obtain ⟨j, hj, q⟩ := loopR_true (fun j V h => reachR_true N j V h) _ _ h
  rcases q with rfl | q
  ·exact .one hj
  ·exact .more hj q
/-- what is new in W has been searched -/
def Done (g : Int → List Int) (ok : Int → Prop) (V W : List Int) : Prop := ∀ x ∈ W, x ∉ V → ∀ j ∈ g x, ok j ∧ j ∈ W
theorem loopR_false {f : Int → List Int → Bool × List Int} {N : Nat} (hf : ∀ j V, InN n V → n + 1 ≤ V.length + N → (f j V).1 = false → Left g n V (f j V).2 ∧ (∀ k ∈ g j, k ≠ t ∧ k ∈ (f j V).2) ∧ Done g (· ≠ t) V (f j V).2) : ∀ (l V : List Int), (∀ j ∈ l, 0 ≤ j ∧ j < (n : Int)) → InN n V → n ≤ V.length + N → (loopR t f l V).1 = false →
  Left g n V (loopR t f l V).2 ∧ (∀ k ∈ l, k ≠ t ∧ k ∈ (loopR t f l V).2) ∧ Done g (· ≠ t) V (loopR t f l V).2
 | [], V, _, h, _, _ => ⟨.refl h, fun k hk => by simp at hk, fun x hx hn => absurd hx hn⟩
 | j :: r, V, hl, h, hN, hz => by
  have hr : ∀ k ∈ r, 0 ≤ k ∧ k < (n : Int) := fun k hk => hl k (List.mem_cons_of_mem _ hk)
  unfold loopR at hz ⊢
  split at hz
  ·cases hz
  ·rename_i hne
   rw [if_neg hne]
   split at hz
   ·rename_i hm
    rw [if_pos hm]
    obtain ⟨q1, q2, q3⟩ := loopR_false hf r V hr h hN hz
    refine ⟨q1, fun k hk => ?_, q3⟩
    rcases List.mem_cons.1 hk with rfl | hk
    ·exact ⟨hne, q1.s _ hm⟩
    ·exact q2 k hk
   ·rename_i hm
    rw [if_neg hm]
    split at hz
    ·rename_i q; rw [q] at hz; cases hz
    ·rename_i hb
     rw [if_neg hb]
     have h1 := Left.add (g := g) h (hl j List.mem_cons_self)
     have hlen := addI_new hm
     obtain ⟨p1, p2, p3⟩ := hf j (addI V j) h1.i (by omega) (by simpa using hb)
     have h2 := h1.trans p1
     obtain ⟨q1, q2, q3⟩ := loopR_false hf r _ hr p1.i (by have := h2.l; omega) hz
     refine ⟨h2.trans q1, fun k hk => ?_, fun x hx hn => ?_⟩
     ·rcases List.mem_cons.1 hk with rfl | hk
      ·exact ⟨hne, q1.s _ (p1.s _ (addI_mem.2 (.inr rfl)))⟩
      ·exact q2 k hk
     ·by_cases hx1 : x ∈ (f j (addI V j)).2
      ·by_cases hx2 : x = j
       ·subst hx2
        exact fun k hk => ⟨(p2 k hk).1, q1.s _ (p2 k hk).2⟩
       ·have : x ∉ addI V j := fun q => (addI_mem.1 q).elim hn hx2
        exact fun k hk => ⟨(p3 x hx1 this k hk).1, q1.s _ (p3 x hx1 this k hk).2⟩
      ·exact q3 x hx hx1
theorem reachR_false (hg : ∀ i, ∀ j ∈ g i, 0 ≤ j ∧ j < (n : Int)) : ∀ (N : Nat) (i : Int) (V : List Int), InN n V → n + 1 ≤ V.length + N → (reachR g t N i V).1 = false →
  Left g n V (reachR g t N i V).2 ∧ (∀ k ∈ g i, k ≠ t ∧ k ∈ (reachR g t N i V).2) ∧ Done g (· ≠ t) V (reachR g t N i V).2
 | 0, _, V, h, hN, _ => absurd h.len (by omega)
 | N + 1, i, V, h, hN, hz => loopR_false (N := N) (fun j V h1 h2 h3 => reachR_false hg N j V h1 h2 h3) _ _ (hg i) h (by omega) hz
theorem loopV_done {f : Int → List Int → List Int} {N : Nat} (hf : ∀ j V, InN n V → n + 1 ≤ V.length + N → Left g n V (f j V) ∧ (∀ k ∈ g j, k ∈ f j V) ∧ Done g (fun _ => True) V (f j V) ∧ ∀ x ∈ f j V, x ∉ V → Path g j x) : ∀ (l V : List Int), (∀ j ∈ l, 0 ≤ j ∧ j < (n : Int)) → InN n V → n ≤ V.length + N →
  Left g n V (loopV f l V) ∧ (∀ k ∈ l, k ∈ loopV f l V) ∧ Done g (fun _ => True) V (loopV f l V) ∧ ∀ x ∈ loopV f l V, x ∉ V → ∃ j ∈ l, x = j ∨ Path g j x
 | [], V, _, h, _ => ⟨.refl h, fun k hk => by simp at hk, fun x hx hn => absurd hx hn, fun x hx hn => absurd hx hn⟩
 | j :: r, V, hl, h, hN => by
  have hr : ∀ k ∈ r, 0 ≤ k ∧ k < (n : Int) := fun k hk => hl k (List.mem_cons_of_mem _ hk)
  unfold loopV
  split
  ·rename_i hm
   obtain ⟨q1, q2, q3, q4⟩ := loopV_done hf r V hr h hN
   refine ⟨q1, fun k hk => ?_, q3, fun x hx hn => ?_⟩
   ·rcases List.mem_cons.1 hk with rfl | hk
    ·exact q1.s _ hm
    ·exact q2 k hk
   ·obtain ⟨k, hk, q⟩ := q4 x hx hn
    exact ⟨k, List.mem_cons_of_mem _ hk, q⟩
  ·rename_i hm
   have h1 := Left.add (g := g) h (hl j List.mem_cons_self)
   have hlen := addI_new hm
   obtain ⟨p1, p2, p3, p4⟩ := hf j (addI V j) h1.i (by omega)
   have h2 := h1.trans p1
   obtain ⟨q1, q2, q3, q4⟩ := loopV_done hf r _ hr p1.i (by have := h2.l; omega)
   refine ⟨h2.trans q1, fun k hk => ?_, fun x hx hn => ?_, fun x hx hn => ?_⟩
   ·rcases List.mem_cons.1 hk with rfl | hk
    ·exact q1.s _ (p1.s _ (addI_mem.2 (.inr rfl)))
    ·exact q2 k hk
   ·by_cases hx1 : x ∈ f j (addI V j)
    ·by_cases hx2 : x = j
     ·subst hx2
      exact fun k hk => ⟨trivial, q1.s _ (p2 k hk)⟩
     ·have : x ∉ addI V j := fun q => (addI_mem.1 q).elim hn hx2
      exact fun k hk => ⟨trivial, q1.s _ (p3 x hx1 this k hk).2⟩
    ·exact q3 x hx hx1
   ·by_cases hx1 : x ∈ f j (addI V j)
    ·by_cases hx2 : x = j
     ·exact ⟨j, List.mem_cons_self, .inl hx2⟩
     ·have : x ∉ addI V j := fun q => (addI_mem.1 q).elim hn hx2
      exact ⟨j, List.mem_cons_self, .inr (p4 x hx1 this)⟩
    ·obtain ⟨k, hk, q⟩ := q4 x hx hx1
     exact ⟨k, List.mem_cons_of_mem _ hk, q⟩
theorem visitR_done (hg : ∀ i, ∀ j ∈ g i, 0 ≤ j ∧ j < (n : Int)) : ∀ (N : Nat) (i : Int) (V : List Int), InN n V → n + 1 ≤ V.length + N →
  Left g n V (visitR g N i V) ∧ (∀ k ∈ g i, k ∈ visitR g N i V) ∧ Done g (fun _ => True) V (visitR g N i V) ∧ ∀ x ∈ visitR g N i V, x ∉ V → Path g i x
 | 0, _, V, h, hN => absurd h.len (by omega)
 | N + 1, i, V, h, hN => by
  obtain ⟨q1, q2, q3, q4⟩ := loopV_done (g := g) (N := N) (fun j V h1 h2 => visitR_done hg N j V h1 h2) (g i) V (hg i) h (by omega)
  refine ⟨q1, q2, q3, fun x hx hn => ?_⟩
  obtain ⟨j, hj, rfl | q⟩ := q4 x hx hn
  ·exact .one hj
  ·exact .more hj q
theorem path_in {W : List Int} {ok : Int → Prop} {i : Int} (h0 : ∀ k ∈ g i, ok k ∧ k ∈ W) (h1 : ∀ x ∈ W, ∀ k ∈ g x, ok k ∧ k ∈ W) {x : Int} (h : Path g i x) : ok x ∧ x ∈ W := by
 induction h with
 | one h => exact h0 _ h
 | more h _ ih => exact ih (h1 _ (h0 _ h).2)
/-- the two searches find the same -/
theorem reach_iff (hg : ∀ i, ∀ j ∈ g i, 0 ≤ j ∧ j < (n : Int)) (t : Int) : (reachR g t (n + 1) t []).1 = true ↔ Path g t t := by
 refine ⟨reachR_true _ _ _, fun h => ?_⟩
 cases hz : (reachR g t (n + 1) t []).1 with
 | true => rfl
 | false =>
  obtain ⟨q1, q2, q3⟩ := reachR_false hg (n + 1) t [] (InN.nil n) (by simp) hz
  exact absurd rfl (path_in (ok := (· ≠ t)) q2 (fun x hx => q3 x hx (by simp)) h).1
theorem visit_iff (hg : ∀ i, ∀ j ∈ g i, 0 ≤ j ∧ j < (n : Int)) (t x : Int) : x ∈ visitR g (n + 1) t [] ↔ Path g t x := by
 obtain ⟨q1, q2, q3, q4⟩ := visitR_done hg (n + 1) t [] (InN.nil n) (by simp)
 exact ⟨fun h => q4 x h (by simp), fun h => (path_in (ok := fun _ => True) (fun k hk => ⟨trivial, q2 k hk⟩) (fun x hx => q3 x hx (by simp)) h).2⟩
end
theorem idxN_rng (l : List Pr) (s : ByteArray) : ∀ (k i : Nat), i + k = l.length → idxN l s i k = -1 ∨ ((i : Int) ≤ idxN l s i k ∧ idxN l s i k < (l.length : Int))
 | 0, i, _ => .inl rfl
 | k + 1, i, h => by
  have hi : i < l.length := by omega
  simp only [idxN, List.getElem?_eq_getElem hi]
  split
  ·exact .inr ⟨Int.le_refl _, by omega⟩
  ·rcases idxN_rng l s k (i + 1) (by omega) with q | q
   ·exact .inl q
   ·exact .inr ⟨by omega, q.2⟩
theorem visI_in (p : Pg) : ∀ (l : List ByteArray) (A : List Int), InN p.procs.length A → InN p.procs.length (visI p A l)
 | [], _, h => h
 | s :: r, A, h => by
  have hA : InN p.procs.length (stepI p A s) := by
   unfold stepI
   split
   ·rename_i hq
    refine h.add ⟨hq, ?_⟩
    rcases idxN_rng p.procs s p.procs.length 0 (by omega) with q | q
    ·rw [q] at hq; exact absurd hq (by decide)
    ·exact q.2
   ·exact h
  exact visI_in p r _ hA
theorem clF_in (p : Pg) (q : Int) : ∀ j ∈ clF p q, 0 ≤ j ∧ j < (p.procs.length : Int) := by
 unfold clF
 split
 ·rename_i t _
  intro j hj
  exact (visI_in p (cnT t) [] (InN.nil _)).r j (mem_sortI.1 hj)
 ·intro j hj; simp at hj
theorem clF_len (p : Pg) (q : Int) : (clF p q).length ≤ p.procs.length := by
 unfold clF
 split
 ·rename_i t _
  rw [sortI_len]
  exact (visI_in p (cnT t) [] (InN.nil _)).len
 ·exact Nat.zero_le _
def recF (p : Pg) (q : Int) : Bool := if 0 ≤ q ∧ q < (p.procs.length : Int) then (reachR (clF p) q (p.procs.length + 1) q []).1 else false
theorem rec_visit (p : Pg) (q : Int) (h : 0 ≤ q ∧ q < (p.procs.length : Int)) : recF p q = decide (q ∈ visitR (clF p) (p.procs.length + 1) q []) := by
 unfold recF
 rw [if_pos h, Bool.eq_iff_iff, decide_eq_true_iff, reach_iff (clF_in p), visit_iff (clF_in p)]
theorem map_inj {α : Type} {f : α → D} (hf : ∀ a b, f a = f b → a = b) : ∀ (p q : List α), p.map f = q.map f → p = q
 | [], [], _ => rfl
 | [], _ :: _, h => by cases h
 | _ :: _, [], h => by cases h
 | a :: r, b :: q, h => by
  simp only [zmc, List.cons.injEq] at h
  rw [hf a b h.1, map_inj hf r q h.2]
theorem sl_inj {n : Nat} {l m : List D} (h : sl n l = sl n m) : l = m := by
 simp only [sl, D.slice.injEq] at h; exact h.2.2
theorem node_of {t u : Tr} (h1 : t.kind = u.kind) (h2 : t.num = u.num) (h3 : t.name = u.name) (h4 : t.kids = u.kids) : t = u := by
 cases t; cases u; simp only [Tr.kind, Tr.num, Tr.name, Tr.kids] at h1 h2 h3 h4; subst h1 h2 h3 h4; rfl
theorem dV_inj {a b : Vd} (h : dV a = dV b) : a = b := by
 cases a; cases b; simp only [dV, D.agg.injEq, List.cons.injEq, D.str.injEq, D.int.injEq, true_and, and_true] at h; obtain ⟨rfl, rfl, rfl⟩ := h; rfl
theorem dP_inj {a b : Pr} (h : dP a = dP b) : a = b := by
 simp only [dP, D.agg.injEq, List.cons.injEq, D.str.injEq, D.int.injEq, true_and, and_true] at h
 obtain ⟨h1, h2, h3, h4, h5, h6⟩ := h
 cases a; cases b
 simp only at h1 h2 h3 h4 h5 h6
 have e1 := map_inj (fun _ _ => dV_inj) _ _ (sl_inj h2)
 have e2 := node_of h3 h4 h5 (map_inj (fun _ _ => dN_inj) _ _ (sl_inj h6))
 rw [h1, e1, e2]
theorem dG_inj {a b : Pg} (h : dG a = dG b) : a = b := by
 simp only [dG, D.agg.injEq, List.cons.injEq, D.str.injEq, D.int.injEq, true_and, and_true] at h
 obtain ⟨h1, h2, h3, h4, h5, h6⟩ := h
 cases a; cases b
 simp only at h1 h2 h3 h4 h5 h6
 have e1 := map_inj (fun _ _ => dV_inj) _ _ (sl_inj h1)
 have e3 := map_inj (fun _ _ => dP_inj) _ _ (sl_inj h2)
 have e2 := node_of h3 h4 h5 (map_inj (fun _ _ => dN_inj) _ _ (sl_inj h6))
 rw [e1, e2, e3]
def CallC : Nat → List D → D → Prop := fun k a d => k = 25 ∧ ∃ p q, Sml p ∧ a = [dG p, .int .i64 q] ∧ d = sl 1 ((clF p q).map dI)
/-- the environment with effects.Calls -/
noncomputable def EVg : Env := EVe.by CallC
theorem EVgP : EVg.P = Try.prog := rfl
theorem EVg_ok : EVg.Ok := by_ok EVe_ok fun k a d ⟨hk, p, q, ho, ha, hd⟩ => by
 subst hk ha hd
 exact ⟨sl_under (map_under (f := dI) (fun _ => rfl) _), sl_strip (map_strip (f := dI) (fun _ => rfl) _), calls_any p ho q⟩
theorem calls_fn (p : Pg) (ho : Sml p) (q : Int) : fn EVg 25 [dG p, .int .i64 q] = some (sl 1 ((clF p q).map dI)) := by
 refine by_fn (by simp only [plain, List.all_cons, List.all_nil, dG_pl, int_pl, Bool.and_true]) (by simp only [zmc, zmn, dG_strip]; rfl) rfl rfl ⟨rfl, p, q, ho, rfl, rfl⟩ ?_
 rintro d' ⟨_, p', q', _, ha, rfl⟩
 simp only [List.cons.injEq, and_true, D.int.injEq, true_and] at ha
 rw [dG_inj ha.1, ha.2]
theorem unB5r (p : Pg) (q : Int) (A : List Int) : UnB [[.slice .imm (if (p.vars.map dV).isEmpty = true then 0 else 3) (p.vars.map dV), .slice .imm (if (p.procs.map dP).isEmpty = true then 0 else 6) (p.procs.map dP), .int .u8 p.main.kind, .int .i64 p.main.num, .str p.main.name, .slice .imm (if (p.main.kids.map dN).isEmpty = true then 0 else 4) (p.main.kids.map dN)], [.int .i64 q], iD A, [.mref 2], [.fn 52 [.ptr 0 0, .ptr 1 0, .ptr 3 0, .ptr 4 0]]] := by
 unfold UnB
 rw [List.all_eq_true]
 intro x hx
 simp only [List.mem_cons, List.not_mem_nil, or_false] at hx
 rcases hx with rfl | rfl | rfl | rfl | rfl
 ·exact dG_under _ p
 ·rfl
 ·exact iD_under _ A
 ·rfl
 ·rfl
set_option maxRecDepth 100000 in
set_option maxHeartbeats 4000000 in
theorem reach_cal {p : Pg} (hs : Sml p) (t : Int) : ∀ (N : Nat) (i : Int) (B : List (List D)) (nx : Nat) (lv : List Nat) (V : List Int), B[0]? = some [.slice .imm (if (p.vars.map dV).isEmpty = true then 0 else 3) (p.vars.map dV), .slice .imm (if (p.procs.map dP).isEmpty = true then 0 else 6) (p.procs.map dP), .int .u8 p.main.kind, .int .i64 p.main.num, .str p.main.name, .slice .imm (if (p.main.kids.map dN).isEmpty = true then 0 else 4) (p.main.kids.map dN)] → B[1]? = some [.int .i64 t] → B[2]? = some (iD V) → B[3]? = some [.mref 2] → B[4]? = some [.fn 52 [.ptr 0 0, .ptr 1 0, .ptr 3 0, .ptr 4 0]] → UnB B → InN p.procs.length V → p.procs.length + 1 ≤ V.length + N →
  ∃ d B' nx' lv', (∀ fr, cal EVg 52 [.int .i64 i, .ptr 0 0, .ptr 1 0, .ptr 3 0, .ptr 4 0] ⟨fr, B, nx, lv⟩ = some (d, ⟨fr, B', nx', lv'⟩)) ∧ d = .bool (reachR (clF p) t N i V).1 ∧ B' = B.set 2 (iD (reachR (clF p) t N i V).2) := by
 intro N
 induction N with
 | zero => intro i B nx lv V _ _ _ _ _ _ hV hN; exact absurd hV.len (by omega)
 | succ N IH =>
 intro i B nx lv V h0 h1 h2 h3 h4 hu hV hN
 refine cal_XE (Φ := fun d B' _ _ => d = .bool (reachR (clF p) t (N + 1) i V).1 ∧ B' = B.set 2 (iD (reachR (clF p) t (N + 1) i V).2)) rfl Try.func52 rfl (by simp [plain, D.under]) ?_
 simp only [enterSt, Try.ntmps52, zlc, zln, Nat.reduceAdd, Nat.reduceSub, zr1, zr0, zca, zna]
 refine X_seq ?_
 refine X_rg fun R hR => ?_
 simp only [aops, astep, awant, aeff, aop, ev, ofValue, St.put, zgd, zmo, if_true, zs1, zs0]
 with_reducible refine hR _ ?_
 clear hR R
 show X _ _ _ _
 refine X_seq ?_
 refine X_seq ?_
 have hC := calls_fn p hs i
 simp only [sl] at hC
 refine X_rg fun R hR => ?_
 simp only [EVgP, inr_i64, Int.reduceLE, Int.reduceNeg, aops, astep, awant, aeff, aop, mkD, ev, ofValue, St.put, pcall, zmc, zmn, zg1, zg0, zgd, zmo, if_true, zs1, zs0, zlm, zlc, zln, zd0, zt1, zt0, zca, zna, Nat.reduceAdd, Nat.reduceLeDiff, Nat.zero_add, and_self, ty_api_Program, und_int, any25, dG_agg, hC, h0]
 with_reducible refine hR _ ?_
 clear hR R
 show X _ _ _ _
 refine X_block ?_
 refine X_loop (fun mm σ => ∃ (m : Nat) (V2 : List Int) (B2 : List (List D)) (nx2 : Nat) (lv2 : List Nat), σ = ⟨[slotOf σ 0, .ptr 0 0, .ptr 1 0, .ptr 3 0, .ptr 4 0, slotOf σ 5, slotOf σ 6, slotOf σ 7, slotOf σ 8, slotOf σ 9, slotOf σ 10, .slice .imm (if ((clF p i).map dI).isEmpty = true then 0 else 1) ((clF p i).map dI), .int .i64 (clF p i).length, .int .i64 m, slotOf σ 14, slotOf σ 15, slotOf σ 16, slotOf σ 17, slotOf σ 18, slotOf σ 19, slotOf σ 20, slotOf σ 21, slotOf σ 22, slotOf σ 23, slotOf σ 24, slotOf σ 25, slotOf σ 26, slotOf σ 27, slotOf σ 28, slotOf σ 29], B2, nx2, lv2⟩ ∧ mm = (clF p i).length - m ∧ m ≤ (clF p i).length ∧ Hid (Bx B 2 V2 [] B2) ∧ Hid (Left (clF p) p.procs.length V V2) ∧ Hid (loopR t (reachR (clF p) t N) ((clF p i).drop m) V2 = reachR (clF p) t (N + 1) i V)) ?_ ((clF p i).length) _ ?_
 rotate_left
 ·exact ⟨0, V, B, nx, lv, rfl, rfl, Nat.zero_le _, Lib.hid (Bx.start h2), Lib.hid (.refl hV), Lib.hid rfl⟩
 rintro mm σ ⟨m, V2, B2, nx2, lv2, hσ, rfl, hm, hB2, hV2, hf⟩
 generalize slotOf σ = x at hσ
 subst hσ
 have hl5 : 4 < B.length := (List.getElem?_eq_some_iff.1 h4).1
 have g2 := hB2.out.inf (by omega)
 have g0 := hB2.out.in0 h0 (by omega)
 have g1 := hB2.out.in0 h1 (by omega)
 have g3 := hB2.out.in0 h3 (by omega)
 have g4 := hB2.out.in0 h4 (by omega)
 refine X_seq ?_
 refine X_rg fun R hR => ?_
 simp only [nat_lt, aops, astep, awant, aeff, aop, abin, aint, ev, St.put, zg1, zg0, zgd, zmo, if_true, zs1, zs0]
 with_reducible refine hR _ ?_
 clear hR R
 show X _ _ _ _
 refine X_seq ?_
 refine X_ite (by simp only [ev, zg1, zg0, zgd]; exact rfl) ?_ ?_
 ·intro b1
  have c1 := b1
  try simp only [decide_eq_true_eq] at c1
  refine X_skip ?_
  show X _ _ _ _
  refine X_seq ?_
  refine X_block ?_
  refine X_seq ?_
  have hlt : m < (clF p i).length := by first | assumption | omega | simp_all
  have hn1 := idx_n (f := dI) (n := 1) hlt
  have e1 : ((clF p i).map dI)[m]? = some (.int .i64 (clF p i)[m]) := by rw [List.getElem?_map, List.getElem?_eq_getElem hlt]; rfl
  have hin := clF_in p i _ (List.getElem_mem hlt)
  refine X_rg fun R hR => ?_
  simp only [EVgP, nat_lt, nat_0, nat_to, aops, astep, awant, aeff, aop, ev, St.put, ia_int, cl_int, zg1, zg0, zgd, zmo, if_true, zs1, zs0, zlm, zlc, zln, Nat.zero_add, and_self, decide_true, zis, ty_int, und_int, siz_int, inf_int_eq, hlt, hn1, e1]
  with_reducible refine hR _ ?_
  clear hR R
  show X _ _ _ _
  refine X_seq ?_
  refine X_seq ?_
  refine X_rg fun R hR => ?_
  simp only [EVgP, aops, astep, awant, aeff, aop, abin, aint, mkD, ev, St.put, ia_int, zg1, zg0, zgd, zmo, if_true, zs1, zs0, zlc, zln, zd0, zt1, zt0, Nat.reduceLeDiff, Nat.zero_add, zft, if_false, ty_int, g1]
  with_reducible refine hR _ ?_
  clear hR R
  show X _ _ _ _
  refine X_ite (by simp only [ev, zg1, zg0, zgd]; exact rfl) ?_ ?_
  ·intro b2
   have c2 := b2
   try simp only [beq_iff_eq] at c2
   refine X_seq ?_
   refine X_rg fun R hR => ?_
   simp only [aops, astep, awant, aeff, aop, ev, ofValue, St.put, zgd, zmo, if_true, zs1, zs0, b2]
   with_reducible refine hR _ ?_
   clear hR R
   show X _ _ _ _
   refine X_ret ?_
   have hq := hf.out
   rw [List.drop_eq_getElem_cons hlt] at hq
   unfold loopR at hq
   have he : (clF p i)[m] = t := by first | assumption | (simp_all; done)
   rw [if_pos he] at hq
   rw [← hq]
   refine ⟨.inr rfl, .bool true, by simp only [resD, resAll, resOne, resTup, Try.results52, EVgP, zg1, zg0, D.good, if_true, zmo], rfl, ?_, ?_, ?_, hB2.out.cut⟩
   ·show B.length ≤ B2.length; rw [hB2.out.len]; omega
   ·rw [hB2.out.cut]; have := unB_set hu 2 (V2); unfold UnB at this; rw [List.length_set] at this; exact this
   ·rfl
  ·intro b3
   have c3 := b3
   try simp only [ne_eq, beq_eq_false_iff_ne] at c3
   refine X_skip ?_
   show X _ _ _ _
   refine X_seq ?_
   have hlk := look_i 2 V2 (clF p i)[m] (fun j => B2[j]?) g2
   refine X_rg fun R hR => ?_
   simp only [EVgP, aops, astep, awant, aeff, aop, mkD, ev, St.put, ia_mref, zg1, zg0, zgd, zmo, if_true, zs1, zs0, zlc, zln, zd0, zt1, zt0, Nat.reduceLeDiff, Nat.zero_add, zft, if_false, b3, g3, hlk, ty_mib]
   with_reducible refine hR _ ?_
   clear hR R
   show X _ _ _ _
   refine X_ite (by simp only [ev, zg1, zg0, zgd]; exact rfl) ?_ ?_
   ·intro b4
    have c4 := b4
    try simp only [znt, decide_eq_false_iff_not] at c4
    refine X_seq ?_
    have hpn := hs.n
    have hvl := hV2.out.i.len
    have hsm := fun fr => set_i 2 V2 (clF p i)[m] (by omega) ⟨fr, B2, nx2, lv2⟩ g2
    refine X_rg fun R hR => ?_
    simp only [EVgP, aops, astep, awant, aeff, aop, mkD, ev, ofValue, St.put, ia_mref, zg1, zg0, zgd, zmo, if_true, zs1, zs0, zlc, zln, zd0, zt1, zt0, Nat.reduceLeDiff, Nat.zero_add, zft, if_false, b4, g3, hsm, ty_mib]
    with_reducible refine hR _ ?_
    clear hR R
    show X _ _ _ _
    refine X_seq ?_
    have hB3 := hB2.out.set (by omega) (addI V2 (clF p i)[m])
    have hnm : (clF p i)[m] ∉ V2 := by first | assumption | (simp_all; done)
    have hal := addI_new hnm
    obtain ⟨_, B4, nx4, lv4, hc4, rfl, hB4⟩ := IH (clF p i)[m] (B2.set 2 (iD (addI V2 (clF p i)[m]))) nx2 lv2 (addI V2 (clF p i)[m]) (hB3.in0 h0 (by omega)) (hB3.in0 h1 (by omega)) (hB3.inf (by omega)) (hB3.in0 h3 (by omega)) (hB3.in0 h4 (by omega)) (hB3.un hu) (hV2.out.i.add hin) (by have := hV2.out.l; omega)
    have hB5 := hB3.set (by omega) (reachR (clF p) t N (clF p i)[m] (addI V2 (clF p i)[m])).2
    rw [← hB4] at hB5
    have g4b := hB3.in0 h4 (by omega)
    refine X_rc fun R hR => ?_
    simp only [EVgP, aops, astep, awant, aeff, aop, mkD, ev, St.put, ia_fn, zmc, zmn, zg1, zg0, zgd, zmo, if_true, zs1, zs0, zlc, zln, zd0, zt1, zt0, zca, zna, Nat.reduceLeDiff, Nat.zero_add, zft, if_false, g4b, hc4, ty_fIB, any52]
    with_reducible refine hR _ ?_
    clear hR R
    show X _ _ _ _
    refine X_ite (by simp only [ev, zg1, zg0, zgd]; exact rfl) ?_ ?_
    ·intro b5
     have c5 := b5
     try simp only [znt, znf, decide_eq_true_eq, decide_eq_false_iff_not, beq_iff_eq, Int.not_lt, Int.not_le, ge_iff_le, gt_iff_lt, bne_iff_ne, ne_eq, bne_eq_false_iff_eq, beq_eq_false_iff_ne, zat, zof] at c5
     refine X_seq ?_
     refine X_rg fun R hR => ?_
     simp only [aops, astep, awant, aeff, aop, ev, ofValue, St.put, zgd, zmo, if_true, zs1, zs0, b5]
     with_reducible refine hR _ ?_
     clear hR R
     show X _ _ _ _
     refine X_ret ?_
     have hq := hf.out
     rw [List.drop_eq_getElem_cons hlt] at hq
     unfold loopR at hq
     have hne : ¬ (clF p i)[m] = t := by first | assumption | (simp_all; done)
     have hb : (reachR (clF p) t N (clF p i)[m] (addI V2 (clF p i)[m])).1 = true := by first | assumption | (simp_all; done)
     rw [if_neg hne, if_neg hnm, if_pos hb] at hq
     rw [← hq]
     refine ⟨.inr rfl, .bool true, by simp only [resD, resAll, resOne, resTup, Try.results52, EVgP, zg1, zg0, D.good, if_true, zmo], rfl, ?_, ?_, ?_, hB5.cut⟩
     ·show B.length ≤ B4.length; rw [hB5.len]; omega
     ·rw [hB5.cut]; have := unB_set hu 2 ((reachR (clF p) t N (clF p i)[m] (addI V2 (clF p i)[m])).2); unfold UnB at this; rw [List.length_set] at this; exact this
     ·rw [hb]
    ·intro b6
     have c6 := b6
     try simp only [znt, znf, decide_eq_true_eq, decide_eq_false_iff_not, beq_iff_eq, Int.not_lt, Int.not_le, ge_iff_le, gt_iff_lt, bne_iff_ne, ne_eq, bne_eq_false_iff_eq, beq_eq_false_iff_ne, zat, zof] at c6
     refine X_skip ?_
     show X _ _ _ _
     have hpn := hs.n
     have hll := clF_len p i
     have hbig : m < 9223372036854775807 := by omega
     refine X_rg fun R hR => ?_
     simp only [inr_i64, Int.reduceLE, Int.reduceNeg, aops, astep, awant, aeff, aop, abin, aint, ev, ofValue, St.put, zg1, zg0, zgd, zmo, if_true, zs1, zs0, and_self, b6, nat_succ hbig]
     with_reducible refine hR _ ?_
     clear hR R
     show ∃ m, m < _ ∧ _
     have hq := hf.out
     rw [List.drop_eq_getElem_cons hlt] at hq
     unfold loopR at hq
     have hne : ¬ (clF p i)[m] = t := by first | assumption | (simp_all; done)
     rw [if_neg hne] at hq
     rw [if_neg hnm] at hq
     have hnb : ¬ (reachR (clF p) t N (clF p i)[m] (addI V2 (clF p i)[m])).1 = true := by first | assumption | (simp_all; done)
     rw [if_neg hnb] at hq
     exact ⟨(clF p i).length - (m + 1), by omega, m + 1, (reachR (clF p) t N (clF p i)[m] (addI V2 (clF p i)[m])).2, B4, nx4, lv4, rfl, rfl, by omega, Lib.hid hB5, Lib.hid ((hV2.out.trans (Left.add hV2.out.i hin)).trans (reachR_left (clF_in p) N _ _ (hV2.out.i.add hin))), Lib.hid hq⟩
   ·intro b7
    have c7 := b7
    try simp only [znf, decide_eq_true_eq] at c7
    refine X_skip ?_
    show X _ _ _ _
    have hpn := hs.n
    have hll := clF_len p i
    have hbig : m < 9223372036854775807 := by omega
    refine X_rg fun R hR => ?_
    simp only [inr_i64, Int.reduceLE, Int.reduceNeg, aops, astep, awant, aeff, aop, abin, aint, ev, ofValue, St.put, zg1, zg0, zgd, zmo, if_true, zs1, zs0, and_self, b7, nat_succ hbig]
    with_reducible refine hR _ ?_
    clear hR R
    show ∃ m, m < _ ∧ _
    have hq := hf.out
    rw [List.drop_eq_getElem_cons hlt] at hq
    unfold loopR at hq
    have hne : ¬ (clF p i)[m] = t := by first | assumption | (simp_all; done)
    rw [if_neg hne] at hq
    have hmm : (clF p i)[m] ∈ V2 := by first | assumption | (simp_all; done)
    rw [if_pos hmm] at hq
    exact ⟨(clF p i).length - (m + 1), by omega, m + 1, V2, B2, nx2, lv2, rfl, rfl, by omega, Lib.hid hB2.out, Lib.hid hV2.out, Lib.hid hq⟩
 ·intro b8
  have c8 := b8
  try simp only [decide_eq_false_iff_not] at c8
  refine X_exit ?_
  show X _ _ _ _
  refine X_seq ?_
  refine X_rg fun R hR => ?_
  simp only [aops, astep, awant, aeff, aop, ev, ofValue, St.put, zgd, zmo, if_true, zs1, zs0, b8]
  with_reducible refine hR _ ?_
  clear hR R
  show X _ _ _ _
  refine X_ret ?_
  have hq := hf.out
  rw [List.drop_of_length_le (by first | omega | (simp_all; omega))] at hq
  unfold loopR at hq
  rw [← hq]
  refine ⟨.inr rfl, .bool false, by simp only [resD, resAll, resOne, resTup, Try.results52, EVgP, zg1, zg0, D.good, if_true, zmo], rfl, ?_, ?_, ?_, hB2.out.cut⟩
  ·show B.length ≤ B2.length; rw [hB2.out.len]; omega
  ·rw [hB2.out.cut]; have := unB_set hu 2 (V2); unfold UnB at this; rw [List.length_set] at this; exact this
  ·rfl
set_option maxRecDepth 100000 in
set_option maxHeartbeats 4000000 in
theorem rec_b1 (p : Pg) (_hs : Sml p) (q : Int) (hq : q < 0) : fn EVg 27 [dG p, .int .i64 q] = some (.bool (recF p q)) := by
 refine fn_X rfl Try.func27 rfl (by simp only [plain, List.all_cons, List.all_nil, dG_pl, int_pl, Bool.and_true]) (rfl) (rfl) (rfl) ?_
 simp only [zmc, zmn, D.strip, dG_strip]
 simp only [enterSt, Try.ntmps27, zlc, zln, Nat.reduceAdd, Nat.reduceSub, zr1, zr0, zca, zna]
 refine X_seq ?_
 refine X_rg fun R hR => ?_
 simp only [aops, astep, awant, aeff, aop, ev, ofValue, St.put, gd_int, cl_int, zg1, zg0, zgd, zmo, if_true, zs1, zs0, zlc, zln, zca, zna, Nat.zero_add, dG_cells, dG_good]
 with_reducible refine hR _ ?_
 clear hR R
 show X _ _ _ _
 refine X_seq ?_
 refine X_seq ?_
 have h1 : (decide (q < 0)) = true := by simpa using hq
 refine X_rg fun R hR => ?_
 simp only [EVgP, inr_i64, Int.reduceLE, Int.reduceNeg, aops, astep, awant, aeff, aop, abin, aint, mkD, ev, ofValue, St.put, ia_int, zg1, zg0, zgd, zmo, Option.map_none, zbs, if_true, zs1, zs0, zlc, zln, zd0, zt1, zt0, Nat.reduceLeDiff, Nat.zero_add, zft, if_false, and_self, reduceCtorEq, bq_tf, ty_int, ty_s_api_Proc, ty_api_Program, und_api_Proc, h1]
 with_reducible refine hR _ ?_
 clear hR R
 show X _ _ _ _
 refine X_true (by simp only [ev, zg1, zg0, zgd]) ?_
 refine X_seq ?_
 refine X_rg fun R hR => ?_
 simp only [aops, astep, awant, aeff, aop, ev, ofValue, St.put, zgd, zmo, if_true, zs1, zs0]
 with_reducible refine hR _ ?_
 clear hR R
 show X _ _ _ _
 refine X_ret ?_
 show resD _ _ _ = some _
 simp only [resD, resAll, resOne, resTup, Try.results27, EVgP, zg1, zg0, D.good, if_true, zmo]
 unfold recF
 rw [if_neg (by omega)]
set_option maxRecDepth 100000 in
set_option maxHeartbeats 4000000 in
theorem rec_b2 (p : Pg) (_hs : Sml p) (q : Int) (hq0 : ¬ q < 0) (hq : (p.procs.length : Int) ≤ q) : fn EVg 27 [dG p, .int .i64 q] = some (.bool (recF p q)) := by
 refine fn_X rfl Try.func27 rfl (by simp only [plain, List.all_cons, List.all_nil, dG_pl, int_pl, Bool.and_true]) (rfl) (rfl) (rfl) ?_
 simp only [zmc, zmn, D.strip, dG_strip]
 simp only [enterSt, Try.ntmps27, zlc, zln, Nat.reduceAdd, Nat.reduceSub, zr1, zr0, zca, zna]
 refine X_seq ?_
 refine X_rg fun R hR => ?_
 simp only [aops, astep, awant, aeff, aop, ev, ofValue, St.put, gd_int, cl_int, zg1, zg0, zgd, zmo, if_true, zs1, zs0, zlc, zln, zca, zna, Nat.zero_add, dG_cells, dG_good]
 with_reducible refine hR _ ?_
 clear hR R
 show X _ _ _ _
 refine X_seq ?_
 refine X_seq ?_
 have h1 : (decide (q < 0)) = false := by simpa using hq0
 have h2 : (decide (q ≥ (p.procs.length : Int))) = true := by simpa using hq
 refine X_rg fun R hR => ?_
 simp only [EVgP, inr_i64, Int.reduceLE, Int.reduceNeg, aops, astep, awant, aeff, aop, abin, aint, mkD, ev, ofValue, St.put, ia_int, ia_slice, zg1, zg0, zgd, zmo, zbs, if_true, zs1, zs0, zlm, zlc, zln, zd1, zd0, zt1, zt0, Nat.reduceAdd, Nat.reduceLeDiff, Nat.zero_add, zft, if_false, and_self, reduceCtorEq, beq_self_eq_true, ty_int, ty_s_api_Proc, ty_api_Program, und_api_Proc, h1, h2]
 with_reducible refine hR _ ?_
 clear hR R
 show X _ _ _ _
 refine X_true (by simp only [ev, zg1, zg0, zgd]) ?_
 refine X_seq ?_
 refine X_rg fun R hR => ?_
 simp only [aops, astep, awant, aeff, aop, ev, ofValue, St.put, zgd, zmo, if_true, zs1, zs0]
 with_reducible refine hR _ ?_
 clear hR R
 show X _ _ _ _
 refine X_ret ?_
 show resD _ _ _ = some _
 simp only [resD, resAll, resOne, resTup, Try.results27, EVgP, zg1, zg0, D.good, if_true, zmo]
 unfold recF
 rw [if_neg (by omega)]
set_option maxRecDepth 100000 in
set_option maxHeartbeats 4000000 in
theorem rec_k (p : Pg) (hs : Sml p) (k : Nat) (hk : k < p.procs.length) : fn EVg 27 [dG p, .int .i64 (k : Int)] = some (.bool (recF p (k : Int))) := by
 refine fn_X rfl Try.func27 rfl (by simp only [plain, List.all_cons, List.all_nil, dG_pl, int_pl, Bool.and_true]) (rfl) (rfl) (rfl) ?_
 simp only [zmc, zmn, D.strip, dG_strip]
 simp only [enterSt, Try.ntmps27, zlc, zln, Nat.reduceAdd, Nat.reduceSub, zr1, zr0, zca, zna]
 refine X_seq ?_
 refine X_rg fun R hR => ?_
 simp only [aops, astep, awant, aeff, aop, ev, ofValue, St.put, gd_int, cl_int, zg1, zg0, zgd, zmo, if_true, zs1, zs0, zlc, zln, zca, zna, Nat.zero_add, dG_cells, dG_good]
 with_reducible refine hR _ ?_
 clear hR R
 show X _ _ _ _
 refine X_seq ?_
 refine X_seq ?_
 have h1 : (decide ((k : Int) < 0)) = false := by first | (simp; done) | (simp; omega)
 have h2 : (decide ((k : Int) ≥ (p.procs.length : Int))) = false := by first | (simp; done) | (simp; omega)
 refine X_rg fun R hR => ?_
 simp only [EVgP, inr_i64, Int.reduceLE, Int.reduceNeg, aops, astep, awant, aeff, aop, abin, aint, mkD, ev, ofValue, St.put, ia_int, ia_slice, zg1, zg0, zgd, zmo, zbs, if_true, zs1, zs0, zlm, zlc, zln, zd1, zd0, zt1, zt0, Nat.reduceAdd, Nat.reduceLeDiff, Nat.zero_add, zft, if_false, and_self, reduceCtorEq, beq_self_eq_true, ty_int, ty_s_api_Proc, ty_api_Program, und_api_Proc, h1, h2]
 with_reducible refine hR _ ?_
 clear hR R
 show X _ _ _ _
 refine X_false (by simp only [ev, zg1, zg0, zgd]) ?_
 refine X_skip ?_
 show X _ _ _ _
 refine X_seq ?_
 refine X_rg fun R hR => ?_
 simp only [EVgP, aops, astep, awant, aeff, astore, ev, St.put, gd_mref, cl_mref, zg1, zg0, zgd, zmo, zbs, if_true, zs1, zs0, zlc, zln, zd1, zd0, zt0, zca, zna, Nat.reduceAdd, Nat.reduceLeDiff, Nat.zero_add, and_self, Option.isNone_none, ty_mib]
 with_reducible refine hR _ ?_
 clear hR R
 show X _ _ _ _
 refine X_seq ?_
 refine X_rg fun R hR => ?_
 simp only [EVgP, aops, astep, awant, aeff, St.put, zmo, zbs, if_true, zs1, zs0, zlc, zln, zca, zna, Nat.reduceAdd, Nat.zero_add, ty_fIB]
 with_reducible refine hR _ ?_
 clear hR R
 show X _ _ _ _
 refine X_seq ?_
 refine X_rg fun R hR => ?_
 simp only [EVgP, aops, astep, awant, aeff, aop, astore, ev, St.put, gd_ptr, ia_ptr, gd_fn, cl_fn, zmc, zmn, zg1, zg0, zgd, zmo, if_true, zs1, zs0, zlc, zln, zd1, zd0, zt0, zca, zna, Nat.reduceLeDiff, Nat.zero_add, Bool.and_true, Bool.not_false, and_self, List.all_cons, List.all_nil, Array.isEmpty_empty, ty_fIB]
 with_reducible refine hR _ ?_
 clear hR R
 show X _ _ _ _
 refine X_seq ?_
 obtain ⟨_, B3, nx3, lv3, hc3, rfl, hB3⟩ := reach_cal hs (k : Int) (p.procs.length + 1) (k : Int) [[.slice .imm (if (p.vars.map dV).isEmpty = true then 0 else 3) (p.vars.map dV), .slice .imm (if (p.procs.map dP).isEmpty = true then 0 else 6) (p.procs.map dP), .int .u8 p.main.kind, .int .i64 p.main.num, .str p.main.name, .slice .imm (if (p.main.kids.map dN).isEmpty = true then 0 else 4) (p.main.kids.map dN)], [.int .i64 (k : Int)], [], [.mref 2], [.fn 52 [.ptr 0 0, .ptr 1 0, .ptr 3 0, .ptr 4 0]]] 0 [] [] rfl rfl rfl rfl rfl (unB5r p (k : Int) []) (InN.nil _) (by simp)
 refine X_rc fun R hR => ?_
 simp only [EVgP, aops, astep, awant, aeff, aop, mkD, ev, St.put, ia_int, ia_fn, zmc, zmn, zg1, zg0, zgd, zmo, if_true, zs1, zs0, zlc, zln, zd0, zt1, zt0, zca, zna, Nat.reduceLeDiff, Nat.zero_add, zft, if_false, ty_int, any52, hc3, ty_fIB, any52]
 with_reducible refine hR _ ?_
 clear hR R
 show X _ _ _ _
 refine X_ret ?_
 show resD _ _ _ = some _
 simp only [resD, resAll, resOne, resTup, Try.results27, EVgP, zg1, zg0, D.good, if_true, zmo]
 unfold recF
 rw [if_pos (by omega)]
theorem rec_fn (p : Pg) (hs : Sml p) (q : Int) : fn EVg 27 [dG p, .int .i64 q] = some (.bool (recF p q)) := by
 by_cases h1 : q < 0
 ·exact rec_b1 p hs q h1
 by_cases h2 : (p.procs.length : Int) ≤ q
 ·exact rec_b2 p hs q h1 h2
 ·obtain ⟨k, rfl⟩ : ∃ k : Nat, q = (k : Int) := ⟨q.toNat, by omega⟩
  exact rec_k p hs k (by omega)

end Go.Proofs.Ytkkhjpkkjpcbmaa
