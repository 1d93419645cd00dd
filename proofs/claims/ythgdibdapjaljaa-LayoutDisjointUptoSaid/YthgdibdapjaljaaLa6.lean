/- Layouts over data: the frame of declarations and a body, in plain Lean. -/
import Derived.Test.YthgdibdapjaljaaLa5
namespace Go.Proofs.Ythgdibdapjaljaa
open Go.RowKit

/-- the map of the declared names, as its box holds it -/
def mpD (l : List Vd) : List D := l.flatMap fun v => [.str v.name, .bool true]
def inL (s : ByteArray) (l : List Vd) : Bool := l.any fun v => decide (s = v.name)
theorem mpD_cons (v : Vd) (l : List Vd) : mpD (v :: l) = .str v.name :: .bool true :: mpD l := rfl
theorem mpD_len (l : List Vd) : (mpD l).length = 2 * l.length := by
 induction l with
 | nil => rfl
 | cons v l ih => rw [mpD_cons]; simp only [zlc, ih]; omega
theorem mpD_under (m : Nat) (l : List Vd) : D.unders m (mpD l) = true := by
 induction l with
 | nil => rfl
 | cons v l ih => rw [mpD_cons]; simp only [D.unders, D.under, ih, Bool.and_true]
theorem inL_cons (s : ByteArray) (v : Vd) (l : List Vd) : inL s (v :: l) = (decide (s = v.name) || inL s l) := rfl
theorem mp_find (s : ByteArray) (l : List Vd) : mfind .string (.str s) (mpD l) = some (if inL s l then some (.bool true) else none) := by
 induction l with
 | nil => rfl
 | cons v l ih =>
  rw [mpD_cons, inL_cons]
  by_cases h : s = v.name
  ·simp [mfind, sameK, h]
  ·simp only [mfind, sameK, h, decide_false, Bool.false_or]; exact ih
theorem mp_put {v : Vd} {l : List Vd} (h : inL v.name l = false) : mput .string (.str v.name) (.bool true) (mpD l) = some (mpD (l ++ [v])) := by
 induction l with
 | nil => rfl
 | cons u l ih =>
  rw [inL_cons, zof] at h
  have h1 : decide (v.name = u.name) = false := h.1
  rw [zca, mpD_cons, mpD_cons]
  simp only [mput, sameK, h1, ih h.2, zmo]
def zF : Fm := ⟨[], 0, 0⟩
/-- the frame of declarations: none where a name comes twice -/
def dclF (seen : List Vd) : List Vd → Fm → Option Fm
 | [], f => some f
 | v :: l, f => if inL v.name seen then none else dclF (seen ++ [v]) l (addF f v)
/-- the local variable of a node -/
def locV (t : Tr) : Option Vd := if t.kind = 54 then some ⟨t.name, 1, 0⟩ else if t.kind = 55 then some ⟨t.name, 3, 0⟩ else none
def locS (l : List Vd) (f : Fm) (t : Tr) : Option Fm := match locV t with
 | none => some f
 | some v => if inL v.name l then none else if (fdS f.slots v.name v.kind).2 then some f else some (addF f v)
def locF (l : List Vd) : List Tr → Fm → Option Fm
 | [], f => some f
 | t :: r, f => (locS l f t).bind (locF l r)
/-- the frame of declarations and a body, and the error -/
def ofF (l : List Vd) (t : Tr) : Fm × Int :=
 if (dclsB l && blockB t) = false then (zF, 3) else match (dclF [] l zF).bind (locF l ((walkL [] t).map (·.2))) with
 | some f => (f, 0)
 | none => (zF, 22)
/-- the bounds of a frame under way -/
def FmB (n : Nat) (f : Fm) : Prop := 0 ≤ f.cells ∧ f.cells ≤ 16 * n ∧ 0 ≤ f.stacks ∧ f.stacks ≤ n ∧ f.slots.length ≤ n
theorem addF_b {n : Nat} {f : Fm} {v : Vd} (h : FmB n f) (h1 : 0 ≤ v.len) (h2 : v.len ≤ 16) : FmB (n + 1) (addF f v) := by
 obtain ⟨a, b, c, d, e⟩ := h
 refine ⟨?_, ?_, ?_, ?_, ?_⟩
 ·simp only [addF]; split
  ·exact a
  ·split <;> omega
 ·simp only [addF]; split
  ·omega
  ·split <;> omega
 ·simp only [addF]; split <;> omega
 ·simp only [addF]; split <;> omega
 ·simp only [addF, zla, zlc, zln]; omega

end Go.Proofs.Ythgdibdapjaljaa
