/- Valid statements and blocks: the walks of the reference, the statement itself. -/
import Derived.Test.YtjikokmhknnnoaaRShape
namespace Go.Proofs.Ytjikokmhknnnoaa
open Go.RowKit Go.Shelf

def catC (b : Int) (t : Tr) : Bool := if b = 101 then exprB t else if b = 112 then placeB t else if b = 98 then blockB t else varB t
/-- what the reference makes of a shape -/
def genB (sh : ByteArray) (named ok : Bool) (n : Int) (s : ByteArray) (c : List Tr) : Bool :=
  ok && (n == 0) && ((c.length : Int) == (sh.size : Int)) && (named == !emptyB s) && (!named || nameB s) && (List.zipWith (fun (b : UInt8) t => catC (b.toNat : Int) t) sh.data.toList c).all id

theorem zipC_of {l : List UInt8} : ∀ {c : List Tr}, (∀ (j : Nat) (h : j < l.length) (h' : j < c.length), catC (l[j].toNat : Int) c[j] = true) → (List.zipWith (fun (b : UInt8) t => catC (b.toNat : Int) t) l c).all id = true := by
  induction l with
  | nil => intro c _; rfl
  | cons p ps ih =>
    intro c hall
    cases c with
    | nil => rfl
    | cons t ts =>
      simp only [List.zipWith_cons_cons, List.all_cons, Bool.and_eq_true, id]
      exact ⟨hall 0 (by simp) (by simp), ih fun j hj hj' => hall (j + 1) (by simpa using hj) (by simpa using hj')⟩
theorem zipC_not {l : List UInt8} : ∀ {c : List Tr} (j : Nat) (h : j < l.length) (h' : j < c.length), catC (l[j].toNat : Int) c[j] = false → (List.zipWith (fun (b : UInt8) t => catC (b.toNat : Int) t) l c).all id = false := by
  induction l with
  | nil => intro c j h; exact absurd h (Nat.not_lt_zero _)
  | cons p ps ih =>
    intro c j h h' hf
    cases c with
    | nil => exact absurd h' (Nat.not_lt_zero _)
    | cons t ts =>
      simp only [List.zipWith_cons_cons, List.all_cons, id]
      cases j with
      | zero => simp only [List.getElem_cons_zero] at hf; rw [hf]; rfl
      | succ j =>
        have := ih (c := ts) j (by simpa using h) (by simpa using h') (by simpa using hf)
        rw [this]; simp

theorem byte_at (sh : ByteArray) (j : Nat) (_h : j < sh.size) (h' : j < sh.data.toList.length) : sh.data.toList[j] = sh[j] := by
  simp [ByteArray.getElem_eq_getElem_data]

end Go.Proofs.Ytjikokmhknnnoaa
