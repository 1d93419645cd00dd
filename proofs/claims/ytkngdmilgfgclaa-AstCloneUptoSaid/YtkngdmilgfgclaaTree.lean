/- The plain tree of a node, and what it means that a node's value reads as a tree in a world. No program in sight. -/
import Derived.WalkKit
import Derived.Lib.Hide
namespace Go.Proofs.Ytkngdmilgfgclaa
open Go.RowKit

inductive Tr where
  | mk (k n : Int) (s : ByteArray) (c : List Tr)

namespace Tr
def kind : Tr → Int | .mk k _ _ _ => k
def num : Tr → Int | .mk _ n _ _ => n
def name : Tr → ByteArray | .mk _ _ s _ => s
def kids : Tr → List Tr | .mk _ _ _ c => c

theorem mk_eta (t : Tr) : Tr.mk t.kind t.num t.name t.kids = t := by cases t; rfl

mutual
theorem ind {P : Tr → Prop} (h : ∀ k n s c, (∀ t, t ∈ c → P t) → P (.mk k n s c)) : ∀ t, P t
  | .mk k n s c => h k n s c (indAll h c)
theorem indAll {P : Tr → Prop} (h : ∀ k n s c, (∀ t, t ∈ c → P t) → P (.mk k n s c)) : ∀ c : List Tr, ∀ t, t ∈ c → P t
  | [], t, m => by cases m
  | x :: r, t, m => by
    cases m with
    | head => exact ind h x
    | tail _ m => exact indAll h r t m
end

mutual
def size : Tr → Nat
  | .mk _ _ _ c => sizes c + 1
def sizes : List Tr → Nat
  | [] => 0
  | t :: r => size t + sizes r
end

mutual
def depth : Tr → Nat
  | .mk _ _ _ c => depths c + 1
def depths : List Tr → Nat
  | [] => 0
  | t :: r => max (depth t) (depths r)
end

theorem sizes_append (a b : List Tr) : sizes (a ++ b) = sizes a + sizes b := by
  induction a with
  | nil => simp [sizes]
  | cons t r ih => simp only [List.cons_append, sizes, ih]; omega

theorem depths_append (a b : List Tr) : depths (a ++ b) = max (depths a) (depths b) := by
  induction a with
  | nil => simp [depths]
  | cons t r ih => simp only [List.cons_append, depths, ih]; omega

theorem take_snoc {α : Type} (c : List α) (i : Nat) (h : i < c.length) : c.take (i + 1) = c.take i ++ [c[i]] := by
  rw [List.take_succ_eq_append_getElem h]

theorem sizes_take (c : List Tr) (i : Nat) (h : i < c.length) : sizes (c.take (i + 1)) = sizes (c.take i) + size c[i] := by
  rw [take_snoc c i h, sizes_append]; simp [sizes]

theorem depths_take (c : List Tr) (i : Nat) (h : i < c.length) : depths (c.take (i + 1)) = max (depths (c.take i)) (depth c[i]) := by
  rw [take_snoc c i h, depths_append]; simp [depths]

theorem sizes_take_le (c : List Tr) (i : Nat) : sizes (c.take i) ≤ sizes c := by
  have h := sizes_append (c.take i) (c.drop i)
  rw [List.take_append_drop] at h; omega

theorem depths_take_le (c : List Tr) (i : Nat) : depths (c.take i) ≤ depths c := by
  have h := depths_append (c.take i) (c.drop i)
  rw [List.take_append_drop] at h; omega

theorem size_le_of_mem {c : List Tr} {t : Tr} (h : t ∈ c) : size t ≤ sizes c := by
  induction c with
  | nil => cases h
  | cons x r ih =>
    simp only [sizes]
    cases h with
    | head => omega
    | tail _ m => have := ih m; omega

theorem depth_le_of_mem {c : List Tr} {t : Tr} (h : t ∈ c) : depth t ≤ depths c := by
  induction c with
  | nil => cases h
  | cons x r ih =>
    simp only [depths]
    cases h with
    | head => omega
    | tail _ m => have := ih m; omega

theorem size_pos (t : Tr) : 1 ≤ size t := by cases t; simp [size]

theorem length_le_sizes (c : List Tr) : c.length ≤ sizes c := by
  induction c with
  | nil => simp
  | cons x r ih => have := size_pos x; simp only [sizes, List.length_cons]; omega
end Tr

/-- a node's value, cell by cell -/
def nodeV (k n : Int) (s : ByteArray) (A : Option Addr) (len cap : Nat) : Value := .agg #[.int .u8 k, .int .i64 n, .string s, .slice A len cap]

/-- the bounds of a node's cells -/
structure Fits (k n : Int) (s : ByteArray) (len cap : Nat) : Prop where
  k0 : 0 ≤ k
  k1 : k ≤ 255
  n0 : -9223372036854775808 ≤ n
  n1 : n ≤ 9223372036854775807
  s1 : s.size ≤ 9223372036854775807
  l1 : len ≤ cap
  c1 : cap ≤ 9223372036854775807

mutual
/-- the value v reads in w as the tree; all that is behind it lies below block B -/
def Rep (w : World) (B : Nat) : Tr → Value → Prop
  | .mk k n s c, v => ∃ (A : Option Addr) (cap : Nat), v = nodeV k n s A c.length cap ∧ Fits k n s c.length cap ∧ RepRow w B c A 0
/-- the nodes of a slice from place i on -/
def RepRow (w : World) (B : Nat) : List Tr → Option Addr → Nat → Prop
  | [], _, _ => True
  | t :: ts, A, i => (∃ (b off : Nat) (c0 c1 c2 c3 : Value), A = some ⟨b, off, none⟩ ∧ b < B ∧ w.cell? ⟨b, off + i * 4, none⟩ = some c0 ∧ w.cell? ⟨b, off + i * 4 + 1, none⟩ = some c1 ∧
      w.cell? ⟨b, off + i * 4 + 2, none⟩ = some c2 ∧ w.cell? ⟨b, off + i * 4 + 3, none⟩ = some c3 ∧ Rep w B t (.agg #[c0, c1, c2, c3])) ∧ RepRow w B ts A (i + 1)
end

theorem repRow_at {w : World} {B : Nat} {A : Option Addr} : ∀ {c : List Tr} {i : Nat}, RepRow w B c A i → ∀ (j : Nat) (h : j < c.length),
    ∃ (b off : Nat) (c0 c1 c2 c3 : Value), A = some ⟨b, off, none⟩ ∧ b < B ∧ w.cell? ⟨b, off + (i + j) * 4, none⟩ = some c0 ∧ w.cell? ⟨b, off + (i + j) * 4 + 1, none⟩ = some c1 ∧
      w.cell? ⟨b, off + (i + j) * 4 + 2, none⟩ = some c2 ∧ w.cell? ⟨b, off + (i + j) * 4 + 3, none⟩ = some c3 ∧ Rep w B c[j] (.agg #[c0, c1, c2, c3])
  | [], _, _, _, h => absurd h (Nat.not_lt_zero _)
  | t :: ts, i, hr, 0, _ => by
    simp only [RepRow] at hr
    simpa using hr.1
  | t :: ts, i, hr, j + 1, h => by
    simp only [RepRow] at hr
    have := repRow_at hr.2 j (by simpa using h)
    rw [show i + (j + 1) = i + 1 + j from by omega]
    simpa using this

theorem repRow_of {w : World} {B : Nat} {A : Option Addr} : ∀ {c : List Tr} {i : Nat}, (∀ (j : Nat) (h : j < c.length),
    ∃ (b off : Nat) (c0 c1 c2 c3 : Value), A = some ⟨b, off, none⟩ ∧ b < B ∧ w.cell? ⟨b, off + (i + j) * 4, none⟩ = some c0 ∧ w.cell? ⟨b, off + (i + j) * 4 + 1, none⟩ = some c1 ∧
      w.cell? ⟨b, off + (i + j) * 4 + 2, none⟩ = some c2 ∧ w.cell? ⟨b, off + (i + j) * 4 + 3, none⟩ = some c3 ∧ Rep w B c[j] (.agg #[c0, c1, c2, c3])) → RepRow w B c A i
  | [], _, _ => by simp [RepRow]
  | t :: ts, i, hr => by
    simp only [RepRow]
    refine ⟨by have h0 := hr 0 (by simp); rw [Nat.add_zero] at h0; exact h0, repRow_of fun j h => ?_⟩
    have := hr (j + 1) (by simpa using h)
    rw [show i + (j + 1) = i + 1 + j from by omega] at this
    simpa using this

mutual
theorem Rep.keep {w w' : World} {B B' : Nat} (hB : B ≤ B') (hk : ∀ b o, b < B → w'.cell? ⟨b, o, none⟩ = w.cell? ⟨b, o, none⟩) : ∀ (t : Tr) {v : Value}, Rep w B t v → Rep w' B' t v
  | .mk k n s c, v, h => by
    simp only [Rep] at h ⊢
    obtain ⟨A, cap, hv, hf, hr⟩ := h
    exact ⟨A, cap, hv, hf, RepRow.keep hB hk c hr⟩
theorem RepRow.keep {w w' : World} {B B' : Nat} (hB : B ≤ B') (hk : ∀ b o, b < B → w'.cell? ⟨b, o, none⟩ = w.cell? ⟨b, o, none⟩) : ∀ (c : List Tr) {A : Option Addr} {i : Nat}, RepRow w B c A i → RepRow w' B' c A i
  | [], _, _, _ => by simp [RepRow]
  | t :: ts, A, i, h => by
    simp only [RepRow] at h ⊢
    obtain ⟨⟨b, off, c0, c1, c2, c3, hA, hb, h0, h1, h2, h3, hr⟩, hs⟩ := h
    exact ⟨⟨b, off, c0, c1, c2, c3, hA, by omega, by rw [hk _ _ hb]; exact h0, by rw [hk _ _ hb]; exact h1, by rw [hk _ _ hb]; exact h2, by rw [hk _ _ hb]; exact h3, Rep.keep hB hk t hr⟩, RepRow.keep hB hk ts hs⟩
end

theorem Rep.below {w w' : World} {B : Nat} {t : Tr} {v : Value} (h : Rep w B t v) (hb : Below B w w') : Rep w' B t v :=
  Rep.keep (Nat.le_refl _) (fun b o hlt => hb.cell (p := ⟨b, o, none⟩) hlt) t h
theorem Rep.more {w : World} {B B' : Nat} {t : Tr} {v : Value} (h : Rep w B t v) (hB : B ≤ B') : Rep w B' t v :=
  Rep.keep hB (fun _ _ _ => rfl) t h
theorem RepRow.below {w w' : World} {B : Nat} {c : List Tr} {A : Option Addr} {i : Nat} (h : RepRow w B c A i) (hb : Below B w w') : RepRow w' B c A i :=
  RepRow.keep (Nat.le_refl _) (fun b o hlt => hb.cell (p := ⟨b, o, none⟩) hlt) c h
theorem RepRow.more {w : World} {B B' : Nat} {c : List Tr} {A : Option Addr} {i : Nat} (h : RepRow w B c A i) (hB : B ≤ B') : RepRow w B' c A i :=
  RepRow.keep hB (fun _ _ _ => rfl) c h

theorem Rep.alloc {w : World} {B : Nat} {t : Tr} {v : Value} (h : Rep w B t v) (hB : B ≤ w.heap.size) (o : Obj) : Rep (w.alloc o) (w.alloc o).heap.size t v :=
  (h.below ((Below.refl B w).alloc hB o)).more (Nat.le_trans hB (by simp))
theorem Rep.at_ {w w' : World} {B : Nat} {t : Tr} {v : Value} (h : Rep w B t v) (hB : B ≤ w.heap.size) (hb : Below B w w') : Rep w' w'.heap.size t v :=
  (h.below hb).more (Nat.le_trans hB hb.size)

/-- the j-th kid of a slice of nodes, as a value, cell by cell -/
theorem RepRow.kid {w : World} {B : Nat} {c : List Tr} {A : Option Addr} (h : RepRow w B c A 0) (j : Nat) (hj : j < c.length) :
    ∃ (b off : Nat) (A' : Option Addr) (cap' : Nat), A = some ⟨b, off, none⟩ ∧ b < B ∧ w.cell? ⟨b, off + j * 4, none⟩ = some (.int .u8 c[j].kind) ∧ w.cell? ⟨b, off + j * 4 + 1, none⟩ = some (.int .i64 c[j].num) ∧
      w.cell? ⟨b, off + j * 4 + 2, none⟩ = some (.string c[j].name) ∧ w.cell? ⟨b, off + j * 4 + 3, none⟩ = some (.slice A' c[j].kids.length cap') ∧
      Rep w B c[j] (nodeV c[j].kind c[j].num c[j].name A' c[j].kids.length cap') := by
  obtain ⟨b, off, c0, c1, c2, c3, hA, hb, h0, h1, h2, h3, hr⟩ := repRow_at h j hj
  simp only [Nat.zero_add] at h0 h1 h2 h3
  have hr' := hr
  generalize c[j] = t at *
  cases t with
  | mk k n s c' =>
    simp only [Rep] at hr'
    obtain ⟨A', cap', hv, _, _⟩ := hr'
    simp only [nodeV, Value.agg.injEq, Array.mk.injEq, List.cons.injEq, and_true] at hv
    obtain ⟨rfl, rfl, rfl, rfl⟩ := hv
    exact ⟨b, off, A', cap', hA, hb, h0, h1, h2, h3, hr⟩

end Go.Proofs.Ytkngdmilgfgclaa
