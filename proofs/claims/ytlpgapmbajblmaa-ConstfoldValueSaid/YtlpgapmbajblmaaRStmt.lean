/- Valid statements and blocks: the walks of the reference, the statement itself. -/
import Derived.Test.YtlpgapmbajblmaaRShape
namespace Go.Proofs.Ytlpgapmbajblmaa
open Go.RowKit Go.Shelf

def catC (b : Int) (t : Tr) : Bool := if b = 101 then exprB t else if b = 112 then placeB t else if b = 98 then blockB t else varB t
/-- what the reference makes of a shape -/
def genB (sh : ByteArray) (named ok : Bool) (n : Int) (s : ByteArray) (c : List Tr) : Bool :=
  ok && (n == 0) && ((c.length : Int) == (sh.size : Int)) && (named == !emptyB s) && (!named || nameB s) && (List.zipWith (fun (b : UInt8) t => catC (b.toNat : Int) t) sh.data.toList c).all id

theorem zipC_of {l : List UInt8} : ∀ {c : List Tr}, (∀ (j : Nat) (h : j < l.length) (h' : j < c.length), catC (l[j].toNat : Int) c[j] = true) → (List.zipWith (fun (b : UInt8) t => catC (b.toNat : Int) t) l c).all id = true := by
  induction l with
  | nil => intro c _; rfl
  | cons p ps ih =>
    intro c hall
    cases c with
    | nil => rfl
    | cons t ts =>
      simp only [List.zipWith_cons_cons, List.all_cons, Bool.and_eq_true, id]
      exact ⟨hall 0 (by simp) (by simp), ih fun j hj hj' => hall (j + 1) (by simpa using hj) (by simpa using hj')⟩
theorem zipC_not {l : List UInt8} : ∀ {c : List Tr} (j : Nat) (h : j < l.length) (h' : j < c.length), catC (l[j].toNat : Int) c[j] = false → (List.zipWith (fun (b : UInt8) t => catC (b.toNat : Int) t) l c).all id = false := by
  induction l with
  | nil => intro c j h; exact absurd h (Nat.not_lt_zero _)
  | cons p ps ih =>
    intro c j h h' hf
    cases c with
    | nil => exact absurd h' (Nat.not_lt_zero _)
    | cons t ts =>
      simp only [List.zipWith_cons_cons, List.all_cons, id]
      cases j with
      | zero => simp only [List.getElem_cons_zero] at hf; rw [hf]; rfl
      | succ j =>
        have := ih (c := ts) j (by simpa using h) (by simpa using h') (by simpa using hf)
        rw [this]; simp

theorem byte_at (sh : ByteArray) (j : Nat) (_h : j < sh.size) (h' : j < sh.data.toList.length) : sh.data.toList[j] = sh[j] := by
  simp [ByteArray.getElem_eq_getElem_data]

set_option maxHeartbeats 800000 in
theorem rStmt_ok (sh : ByteArray) (named ok : Bool) (k n : Int) (s : ByteArray) (c : List Tr) (A : Option Addr) (cap : Nat) (w : World)
    (hsh : ∀ W : World, w.heap.size ≤ W.heap.size → Calls Try.prog 108 #[nodeV k n s A c.length cap] W fun e w' => e = .returned (.tuple #[.string sh, .bool named, .bool ok]) ∧ Below W.heap.size W w')
    (_hsz : sh.size ≤ 8)
    (hr : Rep w w.heap.size (.mk k n s c) (nodeV k n s A c.length cap))
    (h1 : ok = false) :
    Calls Try.prog 103 #[nodeV k n s A c.length cap] w fun e w' => e = .returned (.bool (genB sh named ok n s c)) ∧ Below w.heap.size w w' := by
  have HG := Lib.hid (show genB sh named ok n s c = false by simp [genB, h1])
  obtain ⟨_, hf, _⟩ := hr.row
  have hs1 := hf.s1
  have HSH := Lib.hid hsh
  unfold nodeV at *
  clear hr hsh
  subst h1
  all_goals
    go_enter Try.func103, Try.ntmps103
    go_wp2_with fail
    refine (HSH.out _ (by simp)).mono ?_
    rintro e w1 ⟨rfl, hb1⟩
    have hb2 := ((Below.refl _ w).alloc (Nat.le_refl _) _).trans (hb1.mono (by simp))
    obtain ⟨x0, x1, x2, x3⟩ := box_at hb1
    clear hb1
    go_wp2_with fail
    go_ret
    exact ⟨by simp [HG.out], hb2⟩

set_option maxHeartbeats 800000 in
theorem rStmt_num (sh : ByteArray) (named ok : Bool) (k n : Int) (s : ByteArray) (c : List Tr) (A : Option Addr) (cap : Nat) (w : World)
    (hsh : ∀ W : World, w.heap.size ≤ W.heap.size → Calls Try.prog 108 #[nodeV k n s A c.length cap] W fun e w' => e = .returned (.tuple #[.string sh, .bool named, .bool ok]) ∧ Below W.heap.size W w')
    (_hsz : sh.size ≤ 8)
    (hr : Rep w w.heap.size (.mk k n s c) (nodeV k n s A c.length cap))
    (h1 : ok = true) (h2 : (n == 0) = false) :
    Calls Try.prog 103 #[nodeV k n s A c.length cap] w fun e w' => e = .returned (.bool (genB sh named ok n s c)) ∧ Below w.heap.size w w' := by
  have HG := Lib.hid (show genB sh named ok n s c = false by simp [genB, h2])
  obtain ⟨_, hf, _⟩ := hr.row
  have hs1 := hf.s1
  have HSH := Lib.hid hsh
  unfold nodeV at *
  clear hr hsh
  subst h1
  have h2' : (n != 0) = true := by simp [bne, h2]
  all_goals
    go_enter Try.func103, Try.ntmps103
    go_wp2_with fail
    refine (HSH.out _ (by simp)).mono ?_
    rintro e w1 ⟨rfl, hb1⟩
    have hb2 := ((Below.refl _ w).alloc (Nat.le_refl _) _).trans (hb1.mono (by simp))
    obtain ⟨x0, x1, x2, x3⟩ := box_at hb1
    clear hb1
    go_wp2_with fail
    go_ret
    exact ⟨by simp [HG.out], hb2⟩

set_option maxHeartbeats 800000 in
theorem rStmt_len (sh : ByteArray) (named ok : Bool) (k n : Int) (s : ByteArray) (c : List Tr) (A : Option Addr) (cap : Nat) (w : World)
    (hsh : ∀ W : World, w.heap.size ≤ W.heap.size → Calls Try.prog 108 #[nodeV k n s A c.length cap] W fun e w' => e = .returned (.tuple #[.string sh, .bool named, .bool ok]) ∧ Below W.heap.size W w')
    (_hsz : sh.size ≤ 8)
    (hr : Rep w w.heap.size (.mk k n s c) (nodeV k n s A c.length cap))
    (h1 : ok = true) (h2 : (n == 0) = true) (h3 : ((c.length : Int) == (sh.size : Int)) = false) :
    Calls Try.prog 103 #[nodeV k n s A c.length cap] w fun e w' => e = .returned (.bool (genB sh named ok n s c)) ∧ Below w.heap.size w w' := by
  have HG := Lib.hid (show genB sh named ok n s c = false by simp [genB, h3])
  obtain ⟨_, hf, _⟩ := hr.row
  have hs1 := hf.s1
  have HSH := Lib.hid hsh
  unfold nodeV at *
  clear hr hsh
  subst h1
  have h2' : (n != 0) = false := by simp [bne, h2]
  have h3' : ((c.length : Int) != (sh.size : Int)) = true := by simp [bne, h3]
  all_goals
    go_enter Try.func103, Try.ntmps103
    go_wp2_with fail
    refine (HSH.out _ (by simp)).mono ?_
    rintro e w1 ⟨rfl, hb1⟩
    have hb2 := ((Below.refl _ w).alloc (Nat.le_refl _) _).trans (hb1.mono (by simp))
    obtain ⟨x0, x1, x2, x3⟩ := box_at hb1
    clear hb1
    go_wp2_with fail
    go_ret
    exact ⟨by simp [HG.out], hb2⟩

set_option maxHeartbeats 800000 in
theorem rStmt_nm (sh : ByteArray) (named ok : Bool) (k n : Int) (s : ByteArray) (c : List Tr) (A : Option Addr) (cap : Nat) (w : World)
    (hsh : ∀ W : World, w.heap.size ≤ W.heap.size → Calls Try.prog 108 #[nodeV k n s A c.length cap] W fun e w' => e = .returned (.tuple #[.string sh, .bool named, .bool ok]) ∧ Below W.heap.size W w')
    (_hsz : sh.size ≤ 8)
    (hr : Rep w w.heap.size (.mk k n s c) (nodeV k n s A c.length cap))
    (h1 : ok = true) (h2 : (n == 0) = true) (h3 : ((c.length : Int) == (sh.size : Int)) = true) (h4 : (named == !s.toList.isEmpty) = false) :
    Calls Try.prog 103 #[nodeV k n s A c.length cap] w fun e w' => e = .returned (.bool (genB sh named ok n s c)) ∧ Below w.heap.size w w' := by
  have HG := Lib.hid (show genB sh named ok n s c = false by simp [genB, emptyB, h4])
  obtain ⟨_, hf, _⟩ := hr.row
  have hs1 := hf.s1
  have HSH := Lib.hid hsh
  unfold nodeV at *
  clear hr hsh
  subst h1
  have h2' : (n != 0) = false := by simp [bne, h2]
  have h3' : ((c.length : Int) != (sh.size : Int)) = false := by simp [bne, h3]
  cases named <;> cases hs : s.toList.isEmpty <;> simp [hs] at h4
  all_goals
    go_enter Try.func103, Try.ntmps103
    go_wp2_with fail
    refine (HSH.out _ (by simp)).mono ?_
    rintro e w1 ⟨rfl, hb1⟩
    have hb2 := ((Below.refl _ w).alloc (Nat.le_refl _) _).trans (hb1.mono (by simp))
    obtain ⟨x0, x1, x2, x3⟩ := box_at hb1
    clear hb1
    go_wp2_with fail
    go_ret
    exact ⟨by simp [HG.out], hb2⟩

end Go.Proofs.Ytlpgapmbajblmaa
