import Derived.WalkKit
import Derived.Lib.Hide
import Derived.Test.YtmglacjcefajlaaProg
import Derived.KernelRfl
import Derived.Deep.LoopGhost
import Derived.Deep.Light
import Derived.Outline
import Derived.Maps.AppendAt
import Derived.WalkSmall
/- The plain tree of a node, and what it means that a node's value reads as a tree in a world. No program in sight. -/
namespace Go.Proofs.Ytmglacjcefajlaa
open Go.RowKit

inductive Tr where
 | mk (k n : Int) (s : ByteArray) (c : List Tr)

namespace Tr
def kind : Tr → Int | .mk k _ _ _ => k
def num : Tr → Int | .mk _ n _ _ => n
def name : Tr → ByteArray | .mk _ _ s _ => s
def kids : Tr → List Tr | .mk _ _ _ c => c

mutual
theorem ind {P : Tr → Prop} (h : ∀ k n s c, (∀ t, t ∈ c → P t) → P (.mk k n s c)) : ∀ t, P t
 | .mk k n s c => h k n s c (indAll h c)
theorem indAll {P : Tr → Prop} (h : ∀ k n s c, (∀ t, t ∈ c → P t) → P (.mk k n s c)) : ∀ c : List Tr, ∀ t, t ∈ c → P t
 | [], t, m => by cases m
 | x :: r, t, m => by
  cases m with
  | head => exact ind h x
  | tail _ m => exact indAll h r t m
end

mutual
def size : Tr → Nat
 | .mk _ _ _ c => sizes c + 1
def sizes : List Tr → Nat
 | [] => 0
 | t :: r => size t + sizes r
end

mutual
def depth : Tr → Nat
 | .mk _ _ _ c => depths c + 1
def depths : List Tr → Nat
 | [] => 0
 | t :: r => max (depth t) (depths r)
end
theorem take_snoc {α : Type} (c : List α) (i : Nat) (h : i < c.length) : c.take (i + 1) = c.take i ++ [c[i]] := by
 rw [List.take_succ_eq_append_getElem h]

theorem size_le_of_mem {c : List Tr} {t : Tr} (h : t ∈ c) : size t ≤ sizes c := by
 induction c with
 | nil => cases h
 | cons x r ih =>
  simp only [sizes]
  cases h with
  | head => omega
  | tail _ m => have := ih m; omega

theorem depth_le_of_mem {c : List Tr} {t : Tr} (h : t ∈ c) : depth t ≤ depths c := by
 induction c with
 | nil => cases h
 | cons x r ih =>
  simp only [depths]
  cases h with
  | head => omega
  | tail _ m => have := ih m; omega

theorem size_pos (t : Tr) : 1 ≤ size t := by cases t; simp [size]

theorem length_le_sizes (c : List Tr) : c.length ≤ sizes c := by
 induction c with
 | nil => simp
 | cons x r ih => have := size_pos x; simp only [sizes, List.length_cons]; omega
end Tr

/-- a node's value, cell by cell -/
def nodeV (k n : Int) (s : ByteArray) (A : Option Addr) (len cap : Nat) : Value := .agg #[.int .u8 k, .int .i64 n, .string s, .slice A len cap]

/-- the bounds of a node's cells -/
structure Fits (k n : Int) (s : ByteArray) (len cap : Nat) : Prop where
 k0 : 0 ≤ k
 k1 : k ≤ 255
 n0 : -9223372036854775808 ≤ n
 n1 : n ≤ 9223372036854775807
 s1 : s.size ≤ 9223372036854775807
 l1 : len ≤ cap
 c1 : cap ≤ 9223372036854775807

mutual
/-- the value v reads in w as the tree; all that is behind it lies below block B -/
def Rep (w : World) (B : Nat) : Tr → Value → Prop
 | .mk k n s c, v => ∃ (A : Option Addr) (cap : Nat), v = nodeV k n s A c.length cap ∧ Fits k n s c.length cap ∧ RepRow w B c A 0
/-- the nodes of a slice from place i on -/
def RepRow (w : World) (B : Nat) : List Tr → Option Addr → Nat → Prop
 | [], _, _ => True
 | t :: ts, A, i => (∃ (b off : Nat) (c0 c1 c2 c3 : Value), A = some ⟨b, off, none⟩ ∧ b < B ∧ w.cell? ⟨b, off + i * 4, none⟩ = some c0 ∧ w.cell? ⟨b, off + i * 4 + 1, none⟩ = some c1 ∧
   w.cell? ⟨b, off + i * 4 + 2, none⟩ = some c2 ∧ w.cell? ⟨b, off + i * 4 + 3, none⟩ = some c3 ∧ Rep w B t (.agg #[c0, c1, c2, c3])) ∧ RepRow w B ts A (i + 1)
end

theorem repRow_at {w : World} {B : Nat} {A : Option Addr} : ∀ {c : List Tr} {i : Nat}, RepRow w B c A i → ∀ (j : Nat) (h : j < c.length),
  ∃ (b off : Nat) (c0 c1 c2 c3 : Value), A = some ⟨b, off, none⟩ ∧ b < B ∧ w.cell? ⟨b, off + (i + j) * 4, none⟩ = some c0 ∧ w.cell? ⟨b, off + (i + j) * 4 + 1, none⟩ = some c1 ∧
   w.cell? ⟨b, off + (i + j) * 4 + 2, none⟩ = some c2 ∧ w.cell? ⟨b, off + (i + j) * 4 + 3, none⟩ = some c3 ∧ Rep w B c[j] (.agg #[c0, c1, c2, c3])
 | [], _, _, _, h => absurd h (Nat.not_lt_zero _)
 | t :: ts, i, hr, 0, _ => by
  simp only [RepRow] at hr
  simpa using hr.1
 | t :: ts, i, hr, j + 1, h => by
  simp only [RepRow] at hr
  have := repRow_at hr.2 j (by simpa using h)
  rw [show i + (j + 1) = i + 1 + j from by omega]
  simpa using this

theorem repRow_of {w : World} {B : Nat} {A : Option Addr} : ∀ {c : List Tr} {i : Nat}, (∀ (j : Nat) (h : j < c.length),
  ∃ (b off : Nat) (c0 c1 c2 c3 : Value), A = some ⟨b, off, none⟩ ∧ b < B ∧ w.cell? ⟨b, off + (i + j) * 4, none⟩ = some c0 ∧ w.cell? ⟨b, off + (i + j) * 4 + 1, none⟩ = some c1 ∧
   w.cell? ⟨b, off + (i + j) * 4 + 2, none⟩ = some c2 ∧ w.cell? ⟨b, off + (i + j) * 4 + 3, none⟩ = some c3 ∧ Rep w B c[j] (.agg #[c0, c1, c2, c3])) → RepRow w B c A i
 | [], _, _ => by simp [RepRow]
 | t :: ts, i, hr => by
  simp only [RepRow]
  refine ⟨by have h0 := hr 0 (by simp); rw [Nat.add_zero] at h0; exact h0, repRow_of fun j h => ?_⟩
  have := hr (j + 1) (by simpa using h)
  rw [show i + (j + 1) = i + 1 + j from by omega] at this
  simpa using this

mutual
theorem Rep.keep {w w' : World} {B B' : Nat} (hB : B ≤ B') (hk : ∀ b o, b < B → w'.cell? ⟨b, o, none⟩ = w.cell? ⟨b, o, none⟩) : ∀ (t : Tr) {v : Value}, Rep w B t v → Rep w' B' t v
 | .mk k n s c, v, h => by
  simp only [Rep] at h ⊢
  obtain ⟨A, cap, hv, hf, hr⟩ := h
  exact ⟨A, cap, hv, hf, RepRow.keep hB hk c hr⟩
theorem RepRow.keep {w w' : World} {B B' : Nat} (hB : B ≤ B') (hk : ∀ b o, b < B → w'.cell? ⟨b, o, none⟩ = w.cell? ⟨b, o, none⟩) : ∀ (c : List Tr) {A : Option Addr} {i : Nat}, RepRow w B c A i → RepRow w' B' c A i
 | [], _, _, _ => by simp [RepRow]
 | t :: ts, A, i, h => by
  simp only [RepRow] at h ⊢
  obtain ⟨⟨b, off, c0, c1, c2, c3, hA, hb, h0, h1, h2, h3, hr⟩, hs⟩ := h
  exact ⟨⟨b, off, c0, c1, c2, c3, hA, by omega, by rw [hk _ _ hb]; exact h0, by rw [hk _ _ hb]; exact h1, by rw [hk _ _ hb]; exact h2, by rw [hk _ _ hb]; exact h3, Rep.keep hB hk t hr⟩, RepRow.keep hB hk ts hs⟩
end

theorem Rep.below {w w' : World} {B : Nat} {t : Tr} {v : Value} (h : Rep w B t v) (hb : Below B w w') : Rep w' B t v :=
 Rep.keep (Nat.le_refl _) (fun b o hlt => hb.cell (p := ⟨b, o, none⟩) hlt) t h
theorem Rep.more {w : World} {B B' : Nat} {t : Tr} {v : Value} (h : Rep w B t v) (hB : B ≤ B') : Rep w B' t v :=
 Rep.keep hB (fun _ _ _ => rfl) t h
theorem RepRow.below {w w' : World} {B : Nat} {c : List Tr} {A : Option Addr} {i : Nat} (h : RepRow w B c A i) (hb : Below B w w') : RepRow w' B c A i :=
 RepRow.keep (Nat.le_refl _) (fun b o hlt => hb.cell (p := ⟨b, o, none⟩) hlt) c h
theorem RepRow.more {w : World} {B B' : Nat} {c : List Tr} {A : Option Addr} {i : Nat} (h : RepRow w B c A i) (hB : B ≤ B') : RepRow w B' c A i :=
 RepRow.keep hB (fun _ _ _ => rfl) c h

theorem Rep.alloc {w : World} {B : Nat} {t : Tr} {v : Value} (h : Rep w B t v) (hB : B ≤ w.heap.size) (o : Obj) : Rep (w.alloc o) (w.alloc o).heap.size t v :=
 (h.below ((Below.refl B w).alloc hB o)).more (Nat.le_trans hB (by simp))
theorem Rep.at_ {w w' : World} {B : Nat} {t : Tr} {v : Value} (h : Rep w B t v) (hB : B ≤ w.heap.size) (hb : Below B w w') : Rep w' w'.heap.size t v :=
 (h.below hb).more (Nat.le_trans hB hb.size)

/-- the j-th kid of a slice of nodes, as a value, cell by cell -/
theorem RepRow.kid {w : World} {B : Nat} {c : List Tr} {A : Option Addr} (h : RepRow w B c A 0) (j : Nat) (hj : j < c.length) :
  ∃ (b off : Nat) (A' : Option Addr) (cap' : Nat), A = some ⟨b, off, none⟩ ∧ b < B ∧ w.cell? ⟨b, off + j * 4, none⟩ = some (.int .u8 c[j].kind) ∧ w.cell? ⟨b, off + j * 4 + 1, none⟩ = some (.int .i64 c[j].num) ∧
   w.cell? ⟨b, off + j * 4 + 2, none⟩ = some (.string c[j].name) ∧ w.cell? ⟨b, off + j * 4 + 3, none⟩ = some (.slice A' c[j].kids.length cap') ∧
   Rep w B c[j] (nodeV c[j].kind c[j].num c[j].name A' c[j].kids.length cap') := by
 obtain ⟨b, off, c0, c1, c2, c3, hA, hb, h0, h1, h2, h3, hr⟩ := repRow_at h j hj
 simp only [Nat.zero_add] at h0 h1 h2 h3
 have hr' := hr
 generalize c[j] = t at *
 cases t with
 | mk k n s c' =>
  simp only [Rep] at hr'
  obtain ⟨A', cap', hv, _, _⟩ := hr'
  simp only [nodeV, Value.agg.injEq, Array.mk.injEq, List.cons.injEq, and_true] at hv
  obtain ⟨rfl, rfl, rfl, rfl⟩ := hv
  exact ⟨b, off, A', cap', hA, hb, h0, h1, h2, h3, hr⟩

end Go.Proofs.Ytmglacjcefajlaa

/- Size, Depth: the walks. -/
namespace Go.Proofs.Ytmglacjcefajlaa
open Go.RowKit
end Go.Proofs.Ytmglacjcefajlaa

/- A tree in memory whose blocks are known by a predicate; a slice of nodes that the call itself grows. -/
namespace Go.Proofs.Ytmglacjcefajlaa
open Go.RowKit

mutual
def RepP (w : World) (ok : Nat → Prop) : Tr → Value → Prop
 | .mk k n s c, v => ∃ (A : Option Addr) (cap : Nat), v = nodeV k n s A c.length cap ∧ Fits k n s c.length cap ∧ RowP w ok c A 0
def RowP (w : World) (ok : Nat → Prop) : List Tr → Option Addr → Nat → Prop
 | [], _, _ => True
 | t :: ts, A, i => (∃ (b off : Nat) (c0 c1 c2 c3 : Value), A = some ⟨b, off, none⟩ ∧ ok b ∧ w.cell? ⟨b, off + i * 4, none⟩ = some c0 ∧ w.cell? ⟨b, off + i * 4 + 1, none⟩ = some c1 ∧
   w.cell? ⟨b, off + i * 4 + 2, none⟩ = some c2 ∧ w.cell? ⟨b, off + i * 4 + 3, none⟩ = some c3 ∧ RepP w ok t (.agg #[c0, c1, c2, c3])) ∧ RowP w ok ts A (i + 1)
end

mutual
theorem RepP.to {w : World} {B : Nat} : ∀ (t : Tr) {v : Value}, RepP w (fun b => b < B) t v → Rep w B t v
 | .mk k n s c, v, h => by
  simp only [RepP] at h
  simp only [Rep]
  obtain ⟨A, cap, hv, hf, hr⟩ := h
  exact ⟨A, cap, hv, hf, RowP.to c hr⟩
theorem RowP.to {w : World} {B : Nat} : ∀ (c : List Tr) {A : Option Addr} {i : Nat}, RowP w (fun b => b < B) c A i → RepRow w B c A i
 | [], _, _, _ => by simp [RepRow]
 | t :: ts, A, i, h => by
  simp only [RowP] at h
  simp only [RepRow]
  obtain ⟨⟨b, off, c0, c1, c2, c3, hA, hb, h0, h1, h2, h3, hr⟩, hs⟩ := h
  exact ⟨⟨b, off, c0, c1, c2, c3, hA, hb, h0, h1, h2, h3, RepP.to t hr⟩, RowP.to ts hs⟩
end

mutual
theorem RepP.keep {w w' : World} {ok ok' : Nat → Prop} (hB : ∀ b, ok b → ok' b) (hk : ∀ b o, ok b → w'.cell? ⟨b, o, none⟩ = w.cell? ⟨b, o, none⟩) : ∀ (t : Tr) {v : Value}, RepP w ok t v → RepP w' ok' t v
 | .mk k n s c, v, h => by
  simp only [RepP] at h ⊢
  obtain ⟨A, cap, hv, hf, hr⟩ := h
  exact ⟨A, cap, hv, hf, RowP.keep hB hk c hr⟩
theorem RowP.keep {w w' : World} {ok ok' : Nat → Prop} (hB : ∀ b, ok b → ok' b) (hk : ∀ b o, ok b → w'.cell? ⟨b, o, none⟩ = w.cell? ⟨b, o, none⟩) : ∀ (c : List Tr) {A : Option Addr} {i : Nat}, RowP w ok c A i → RowP w' ok' c A i
 | [], _, _, _ => by simp [RowP]
 | t :: ts, A, i, h => by
  simp only [RowP] at h ⊢
  obtain ⟨⟨b, off, c0, c1, c2, c3, hA, hb, h0, h1, h2, h3, hr⟩, hs⟩ := h
  exact ⟨⟨b, off, c0, c1, c2, c3, hA, hB b hb, by rw [hk _ _ hb]; exact h0, by rw [hk _ _ hb]; exact h1, by rw [hk _ _ hb]; exact h2, by rw [hk _ _ hb]; exact h3, RepP.keep hB hk t hr⟩, RowP.keep hB hk ts hs⟩
end
theorem RepP.weak {w : World} {ok ok' : Nat → Prop} {t : Tr} {v : Value} (h : RepP w ok t v) (hB : ∀ b, ok b → ok' b) : RepP w ok' t v := RepP.keep hB (fun _ _ _ => rfl) t h
theorem RepP.lt {w : World} {ok : Nat → Prop} {t : Tr} {v : Value} {B : Nat} (h : RepP w ok t v) (hB : ∀ b, ok b → b < B) : Rep w B t v := RepP.to t (h.weak hB)

theorem rowP_of {w : World} {ok : Nat → Prop} {A : Option Addr} : ∀ {c : List Tr} {i : Nat}, (∀ (j : Nat) (h : j < c.length),
  ∃ (b off : Nat) (c0 c1 c2 c3 : Value), A = some ⟨b, off, none⟩ ∧ ok b ∧ w.cell? ⟨b, off + (i + j) * 4, none⟩ = some c0 ∧ w.cell? ⟨b, off + (i + j) * 4 + 1, none⟩ = some c1 ∧
   w.cell? ⟨b, off + (i + j) * 4 + 2, none⟩ = some c2 ∧ w.cell? ⟨b, off + (i + j) * 4 + 3, none⟩ = some c3 ∧ RepP w ok c[j] (.agg #[c0, c1, c2, c3])) → RowP w ok c A i
 | [], _, _ => by simp [RowP]
 | t :: ts, i, hr => by
  simp only [RowP]
  refine ⟨by have h0 := hr 0 (by simp); rw [Nat.add_zero] at h0; exact h0, rowP_of fun j h => ?_⟩
  have := hr (j + 1) (by simpa using h)
  rw [show i + (j + 1) = i + 1 + j from by omega] at this
  simpa using this

theorem rowP_at {w : World} {ok : Nat → Prop} {A : Option Addr} : ∀ {c : List Tr} {i : Nat}, RowP w ok c A i → ∀ (j : Nat) (h : j < c.length),
  ∃ (b off : Nat) (c0 c1 c2 c3 : Value), A = some ⟨b, off, none⟩ ∧ ok b ∧ w.cell? ⟨b, off + (i + j) * 4, none⟩ = some c0 ∧ w.cell? ⟨b, off + (i + j) * 4 + 1, none⟩ = some c1 ∧
   w.cell? ⟨b, off + (i + j) * 4 + 2, none⟩ = some c2 ∧ w.cell? ⟨b, off + (i + j) * 4 + 3, none⟩ = some c3 ∧ RepP w ok c[j] (.agg #[c0, c1, c2, c3])
 | [], _, _, _, h => absurd h (Nat.not_lt_zero _)
 | t :: ts, i, hr, 0, _ => by
  simp only [RowP] at hr
  simpa using hr.1
 | t :: ts, i, hr, j + 1, h => by
  simp only [RowP] at hr
  have := rowP_at hr.2 j (by simpa using h)
  rw [show i + (j + 1) = i + 1 + j from by omega]
  simpa using this

/-- the cells of a row of nodes, one after another -/
def CellsP (w : World) (ok : Nat → Prop) : List Tr → List Value → Prop
 | [], [] => True
 | t :: ts, c0 :: c1 :: c2 :: c3 :: xs => RepP w ok t (.agg #[c0, c1, c2, c3]) ∧ CellsP w ok ts xs
 | _, _ => False

theorem CellsP.keep {w w' : World} {ok ok' : Nat → Prop} (hB : ∀ b, ok b → ok' b) (hk : ∀ b o, ok b → w'.cell? ⟨b, o, none⟩ = w.cell? ⟨b, o, none⟩) : ∀ {ts : List Tr} {xs : List Value}, CellsP w ok ts xs → CellsP w' ok' ts xs
 | [], [], _ => by simp [CellsP]
 | t :: ts, c0 :: c1 :: c2 :: c3 :: xs, h => by
  simp only [CellsP] at h ⊢
  exact ⟨RepP.keep hB hk t h.1, h.2.keep hB hk⟩
theorem CellsP.snoc {w : World} {ok : Nat → Prop} : ∀ {ts : List Tr} {xs : List Value} {t : Tr} {c0 c1 c2 c3 : Value}, CellsP w ok ts xs → RepP w ok t (.agg #[c0, c1, c2, c3]) → CellsP w ok (ts ++ [t]) (xs ++ [c0, c1, c2, c3])
 | [], [], _, _, _, _, _, _, h => by simp [CellsP, h]
 | u :: ts, d0 :: d1 :: d2 :: d3 :: xs, t, c0, c1, c2, c3, h, hr => by
  simp only [CellsP, List.cons_append] at h ⊢
  exact ⟨h.1, h.2.snoc hr⟩
theorem CellsP.at_ {w : World} {ok : Nat → Prop} : ∀ {ts : List Tr} {xs : List Value}, CellsP w ok ts xs → ∀ (j : Nat) (h : j < ts.length),
  ∃ c0 c1 c2 c3, xs[j * 4]? = some c0 ∧ xs[j * 4 + 1]? = some c1 ∧ xs[j * 4 + 2]? = some c2 ∧ xs[j * 4 + 3]? = some c3 ∧ RepP w ok ts[j] (.agg #[c0, c1, c2, c3])
 | [], _, _, j, h => absurd h (Nat.not_lt_zero _)
 | t :: ts, c0 :: c1 :: c2 :: c3 :: xs, hc, 0, _ => by
  simp only [CellsP] at hc
  exact ⟨c0, c1, c2, c3, rfl, rfl, rfl, rfl, hc.1⟩
 | t :: ts, c0 :: c1 :: c2 :: c3 :: xs, hc, j + 1, h => by
  simp only [CellsP] at hc
  obtain ⟨d0, d1, d2, d3, e0, e1, e2, e3, hr⟩ := hc.2.at_ j (by simpa using h)
  refine ⟨d0, d1, d2, d3, ?_, ?_, ?_, ?_, hr⟩
  ·rw [show (j + 1) * 4 = j * 4 + 1 + 1 + 1 + 1 from by omega]; simpa using e0
  ·rw [show (j + 1) * 4 + 1 = j * 4 + 1 + 1 + 1 + 1 + 1 from by omega]; simpa using e1
  ·rw [show (j + 1) * 4 + 2 = j * 4 + 2 + 1 + 1 + 1 + 1 from by omega]; simpa using e2
  ·rw [show (j + 1) * 4 + 3 = j * 4 + 3 + 1 + 1 + 1 + 1 from by omega]; simpa using e3

/-- the slice value v is a row of the call's own (from block base on) that reads as the trees -/
def OwnNodes (w : World) (base : Nat) (v : Value) (ts : List Tr) : Prop :=
 ∃ xs, w.ownsRow base 26 4 v ts.length xs ∧ CellsP w (fun b => base ≤ b ∧ b < w.heap.size ∧ v.ownBlock ≠ some b) ts xs

theorem OwnNodes.nil (w : World) (base : Nat) : OwnNodes w base (.slice none 0 0) [] := ⟨[], World.ownsRow_nil _ _ _ _, by simp [CellsP]⟩

theorem grownBy_of_below {a w : World} (h : Below a.heap.size a w) (row : Option Nat) : a.grownBy w row := ⟨h.os, h.tape, h.output, h.size, fun i hi _ => h.block i hi⟩

theorem OwnNodes.below {w w' : World} {base : Nat} {v : Value} {ts : List Tr} (h : OwnNodes w base v ts) (hb : Below w.heap.size w w') : OwnNodes w' base v ts := by
 obtain ⟨xs, ho, hc⟩ := h
 have hs := hb.size
 exact ⟨xs, ho.kept (grownBy_of_below hb none) (by cases hv : v.ownBlock <;> simp), hc.keep (fun b hb' => ⟨hb'.1, by omega, hb'.2.2⟩) (fun b o hb' => hb.cell (p := ⟨b, o, none⟩) hb'.2.1)⟩

theorem OwnNodes.row {w : World} {base : Nat} {v : Value} {ts : List Tr} (h : OwnNodes w base v ts) :
  ∃ (A : Option Addr) (cap : Nat), v = .slice A ts.length cap ∧ ts.length ≤ cap ∧ cap ≤ 9223372036854775807 ∧ RowP w (fun b => base ≤ b ∧ b < w.heap.size) ts A 0 := by
 obtain ⟨xs, ho, hc⟩ := h
 rcases ho.2 with ⟨rfl, h0⟩ | ⟨g, cap, cur, rfl, hb, hg, hnc, hcm, hcs, htake⟩
 ·have : ts = [] := List.eq_nil_of_length_eq_zero h0
  subst this
  exact ⟨none, 0, rfl, Nat.le_refl _, by omega, by simp [RowP]⟩
 ·have hlt := (Array.getElem?_eq_some_iff.1 hg).1
  refine ⟨some ⟨g, 0, none⟩, cap, rfl, hnc, by simpa [maxLen] using hcm, rowP_of fun j hj => ?_⟩
  obtain ⟨c0, c1, c2, c3, e0, e1, e2, e3, hr⟩ := hc.at_ j hj
  have hcell : ∀ m u, xs[m]? = some u → w.cell? ⟨g, m, none⟩ = some u := by
   intro m u hu
   have := ho.cells (g := g) rfl m u hu
   have hadd : (⟨g, 0, none⟩ : Addr).add m = ⟨g, m, none⟩ := by unfold Addr.add; split <;> simp_all
   rwa [hadd] at this
  refine ⟨g, 0, c0, c1, c2, c3, rfl, ⟨hb, hlt⟩, ?_, ?_, ?_, ?_, hr.weak fun b hb' => ⟨hb'.1, hb'.2.1⟩⟩
  ·simpa using hcell _ _ e0
  ·simpa using hcell _ _ e1
  ·simpa using hcell _ _ e2
  ·simpa using hcell _ _ e3

theorem infoNode : (Try.prog.info? 26).map (fun i => (i.zero, i.size, i.bytes)) = some (some (.agg #[.int .u8 0, .int .i64 0, .string ⟨#[]⟩, .slice none 0 0]), 4, 56) := by kernel_rfl
theorem undNodes : Try.prog.underlying 24 = some (.slice 26) := by kernel_rfl

/-- append(v, x) of one node: x lies in a new block of its own -/
theorem wpList_append_node {ops : Array Oper} {rest : List Oper} {o : Oper} {a : Act} {Q : Exit → Act → World → Prop} (hgd : o.guard = none) (s x : Operand)
  (ho : o.op = .call { callee := .builtin .append, args := #[s, x], argTypes := #[24, 24] })
  (w : World) (base : Nat) (v : Value) (ts : List Tr) (t : Tr) (c0 c1 c2 c3 : Value) (hs : a.eval s = v) (hx : a.eval x = .slice (some ⟨w.heap.size, 0, none⟩) 1 1)
  (hO : OwnNodes w base v ts) (hr : RepP w (fun b => base ≤ b ∧ b < w.heap.size ∧ v.ownBlock ≠ some b) t (.agg #[c0, c1, c2, c3])) (hlen : ts.length + 1 ≤ 1000000) (hbase : base ≤ w.heap.size)
  (h : ∀ v' w', OwnNodes w' base v' (ts ++ [t]) → (w.alloc (.cells #[c0, c1, c2, c3] 26)).grownBy w' v.ownBlock → (∀ g, v'.ownBlock = some g → base ≤ g) → wpList Try.prog ops Q rest (a.put o.dst v') w') :
  wpList Try.prog ops Q (o :: rest) a (w.alloc (.cells #[c0, c1, c2, c3] 26)) := by
 obtain ⟨i0, hi0, hz0, hz1, hz2⟩ := info_parts infoNode
 obtain ⟨xs, hown, hc⟩ := hO
 have hone : ∀ u ∈ [c0, c1, c2, c3], u.oneCell' = true := by
  cases t with
  | mk k n s c =>
   simp only [RepP] at hr
   obtain ⟨A, cap, he, _, _⟩ := hr
   simp only [nodeV, Value.agg.injEq, Array.mk.injEq, List.cons.injEq, and_true] at he
   obtain ⟨rfl, rfl, rfl, rfl⟩ := he
   intro u hu
   simp only [List.mem_cons, List.not_mem_nil, or_false] at hu
   rcases hu with rfl | rfl | rfl | rfl <;> rfl
 refine wpList_append_own_at _ hgd s x _ ho base 26 i0 _ 4 56 undNodes hi0 hz0 hz1 hz2 rfl (by omega) v ts.length xs hs (hown.alloc _) ⟨w.heap.size, 0, none⟩ 1 1 [c0, c1, c2, c3] hx rfl ?_ hone
  (by simp only [maxLen]; omega) (by omega) (by simp; omega) ?_
 ·intro j u hu
  have hadd : (⟨w.heap.size, 0, none⟩ : Addr).add j = ⟨w.heap.size, j, none⟩ := by unfold Addr.add; split <;> simp_all
  rw [hadd, cell_of_row _ _ _ _ _ _ (heap_alloc_new w _)]
  simpa using hu
 ·intro v' w' hown' hg _ hat
  have hsz := hg.size
  simp only [World.size_alloc] at hsz
  have hsame : ∀ b o, base ≤ b ∧ b < w.heap.size ∧ v.ownBlock ≠ some b → w'.cell? ⟨b, o, none⟩ = w.cell? ⟨b, o, none⟩ := by
   intro b o hb
   have h1 : w'.cell? ⟨b, o, none⟩ = (w.alloc (.cells #[c0, c1, c2, c3] 26)).cell? ⟨b, o, none⟩ := World.cell?_of_block (hg.block b (by simp; omega) (fun e => hb.2.2 e.symm))
   rw [h1]
   exact World.cell?_alloc_lt w _ ⟨b, o, none⟩ hb.2.1
  refine h v' w' ⟨xs ++ [c0, c1, c2, c3], by simpa using hown', ?_⟩ hg (fun g hgg => (hown'.lt g hgg).1)
  refine (hc.snoc hr).keep (fun b hb => ⟨hb.1, by omega, fun e => ?_⟩) hsame
  rcases hat with e' | e'
  ·rw [e'] at e; exact hb.2.2 e
  ·rw [e'] at e
   simp only [World.size_alloc, Option.some.injEq] at e
   omega

end Go.Proofs.Ytmglacjcefajlaa
