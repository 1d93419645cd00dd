import Derived.Test.YtmglacjcefajlaaKinds
import Derived.Test.YtmglacjcefajlaaBB
import Derived.Test.YtmglacjcefajlaaKinds2
import Derived.Test.YtmglacjcefajlaaBA
/- Valid expressions: the walk of the reference. -/
namespace Go.Proofs.Ytmglacjcefajlaa
open Go.RowKit Go.Shelf

theorem Rep.row {w : World} {B : Nat} {k n : Int} {s : ByteArray} {c : List Tr} {A : Option Addr} {cap len : Nat} (hr : Rep w B (.mk k n s c) (nodeV k n s A len cap)) : len = c.length ∧ Fits k n s c.length cap ∧ RepRow w B c A 0 := by
 simp only [Rep] at hr
 obtain ⟨A', cap', he, hf, hrow⟩ := hr
 simp only [nodeV, Value.agg.injEq, Array.mk.injEq, List.cons.injEq, Value.slice.injEq, true_and, and_true] at he
 obtain ⟨rfl, hl, rfl⟩ := he
 exact ⟨hl, hf, hrow⟩

end Go.Proofs.Ytmglacjcefajlaa

/- Valid statements and blocks: the walks of the reference. -/
namespace Go.Proofs.Ytmglacjcefajlaa
open Go.RowKit Go.Shelf
def vees : ByteArray := ⟨#[118, 118, 118, 118, 118, 118, 118, 118]⟩

end Go.Proofs.Ytmglacjcefajlaa

/- Valid statements and blocks: the walks of the reference, the statement itself. -/
namespace Go.Proofs.Ytmglacjcefajlaa
open Go.RowKit Go.Shelf

def catC (b : Int) (t : Tr) : Bool := if b = 101 then exprB t else if b = 112 then placeB t else if b = 98 then blockB t else varB t
/-- what the reference makes of a shape -/
def genB (sh : ByteArray) (named ok : Bool) (n : Int) (s : ByteArray) (c : List Tr) : Bool :=
 ok && (n == 0) && ((c.length : Int) == (sh.size : Int)) && (named == !emptyB s) && (!named || nameB s) && (List.zipWith (fun (b : UInt8) t => catC (b.toNat : Int) t) sh.data.toList c).all id

theorem zipC_of {l : List UInt8} : ∀ {c : List Tr}, (∀ (j : Nat) (h : j < l.length) (h' : j < c.length), catC (l[j].toNat : Int) c[j] = true) → (List.zipWith (fun (b : UInt8) t => catC (b.toNat : Int) t) l c).all id = true := by
 induction l with
 | nil => intro c _; rfl
 | cons p ps ih =>
  intro c hall
  cases c with
  | nil => rfl
  | cons t ts =>
   simp only [List.zipWith_cons_cons, List.all_cons, Bool.and_eq_true, id]
   exact ⟨hall 0 (by simp) (by simp), ih fun j hj hj' => hall (j + 1) (by simpa using hj) (by simpa using hj')⟩
theorem zipC_not {l : List UInt8} : ∀ {c : List Tr} (j : Nat) (h : j < l.length) (h' : j < c.length), catC (l[j].toNat : Int) c[j] = false → (List.zipWith (fun (b : UInt8) t => catC (b.toNat : Int) t) l c).all id = false := by
 induction l with
 | nil => intro c j h; exact absurd h (Nat.not_lt_zero _)
 | cons p ps ih =>
  intro c j h h' hf
  cases c with
  | nil => exact absurd h' (Nat.not_lt_zero _)
  | cons t ts =>
   simp only [List.zipWith_cons_cons, List.all_cons, id]
   cases j with
   | zero => simp only [List.getElem_cons_zero] at hf; rw [hf]; rfl
   | succ j =>
    have := ih (c := ts) j (by simpa using h) (by simpa using h') (by simpa using hf)
    rw [this]; simp

theorem byte_at (sh : ByteArray) (j : Nat) (_h : j < sh.size) (h' : j < sh.data.toList.length) : sh.data.toList[j] = sh[j] := by
 simp [ByteArray.getElem_eq_getElem_data]

end Go.Proofs.Ytmglacjcefajlaa

/- Valid statements: the walk of the reference, its loop. -/
namespace Go.Proofs.Ytmglacjcefajlaa
open Go.RowKit Go.Shelf
end Go.Proofs.Ytmglacjcefajlaa

/- Valid statements and blocks of the reference, together. -/
namespace Go.Proofs.Ytmglacjcefajlaa
open Go.RowKit Go.Shelf
def catN (b : UInt8) : Nat := if b = 101 then 0 else if b = 112 then 1 else if b = 98 then 2 else 3
theorem catC_N (b : UInt8) (t : Tr) : catC (b.toNat : Int) t = (if catN b = 0 then exprB t else if catN b = 1 then placeB t else if catN b = 2 then blockB t else varB t) := by
 have key : ∀ m : Nat, m < 256 → (((b.toNat : Int) = (m : Int)) ↔ b = UInt8.ofNat m) := by
  intro m hm
  constructor
  ·intro h
   have : b.toNat = m := by omega
   rw [← this]; simp
  ·intro h; subst h
   have : (UInt8.ofNat m).toNat = m := by simp; omega
   omega
 have k1 := key 101 (by omega)
 have k2 := key 112 (by omega)
 have k3 := key 98 (by omega)
 unfold catC catN
 by_cases h1 : b = 101
 ·subst h1; rfl
 ·have g1 : ¬ (b.toNat : Int) = 101 := fun e => h1 (k1.1 e)
  by_cases h2 : b = 112
  ·subst h2; rfl
  ·have g2 : ¬ (b.toNat : Int) = 112 := fun e => h2 (k2.1 e)
   by_cases h3 : b = 98
   ·subst h3; rfl
   ·have g3 : ¬ (b.toNat : Int) = 98 := fun e => h3 (k3.1 e)
    simp [g1, g2, g3, h1, h2, h3]

theorem zipC_cats : ∀ (l : List UInt8) (c : List Tr), (((c.length : Int) == (l.length : Int)) && (List.zipWith (fun (b : UInt8) t => catC (b.toNat : Int) t) l c).all id) = catsB (l.map catN) c
 | [], [] => by simp [catsB]
 | [], t :: r => by
  have : (((t :: r).length : Int) == (([] : List UInt8).length : Int)) = false := by simp; omega
  rw [this]; simp [catsB]
 | b :: l, [] => by
  have : ((([] : List Tr).length : Int) == ((b :: l).length : Int)) = false := by simp; omega
  rw [this]; simp [catsB]
 | b :: l, t :: r => by
  have hl : (((t :: r).length : Int) == ((b :: l).length : Int)) = ((r.length : Int) == (l.length : Int)) := by
   rw [Bool.eq_iff_iff]; simp
  simp only [List.map_cons, catsB, ← zipC_cats l r, hl, List.zipWith_cons_cons, List.all_cons, id, catC_N]
  cases ((r.length : Int) == (l.length : Int)) <;> simp

theorem genB_cats (sh : ByteArray) (named : Bool) (n : Int) (s : ByteArray) (c : List Tr) :
  genB sh named true n s c = ((if named then namedB n s else plainB n s) && catsB (sh.data.toList.map catN) c) := by
 have hz := zipC_cats sh.data.toList c
 have hl : ((sh.data.toList.length : Nat) : Int) = (sh.size : Int) := by simp
 rw [hl] at hz
 rw [← hz]
 unfold genB namedB plainB
 cases named
 ·cases (n == 0) <;> cases emptyB s <;> cases ((c.length : Int) == (sh.size : Int)) <;> simp
 ·cases hnm : nameB s
  ·simp
  ·have he : emptyB s = false := by
    unfold emptyB
    have h0 : 0 < s.size := by
     simp only [nameB, Bool.and_eq_true, decide_eq_true_eq] at hnm
     exact hnm.1.1.1.1
    exact (ne_of_pos h0).1
   rw [he]
   cases (n == 0) <;> cases ((c.length : Int) == (sh.size : Int)) <;> simp

theorem vees_list (m : Nat) (h : m ≤ 8) : (ByteArray.extract ⟨#[118, 118, 118, 118, 118, 118, 118, 118]⟩ 0 m).data.toList = List.replicate m 118 := by
 have : m = 0 ∨ m = 1 ∨ m = 2 ∨ m = 3 ∨ m = 4 ∨ m = 5 ∨ m = 6 ∨ m = 7 ∨ m = 8 := by omega
 rcases this with rfl | rfl | rfl | rfl | rfl | rfl | rfl | rfl | rfl <;> decide

theorem bytes_ok {sh : ByteArray} (h : ∀ b, b ∈ sh.data.toList → b = 101 ∨ b = 112 ∨ b = 98 ∨ b = 118) :
  ∀ (i : Nat) (hi : i < sh.size), (sh[i].toNat : Int) = 101 ∨ (sh[i].toNat : Int) = 112 ∨ (sh[i].toNat : Int) = 98 ∨ (sh[i].toNat : Int) = 118 := by
 intro i hi
 have hm : sh[i] ∈ sh.data.toList := by rw [← byte_at sh i hi (by simpa using hi)]; exact List.getElem_mem _
 rcases h _ hm with e | e | e | e <;> rw [e] <;> simp

end Go.Proofs.Ytmglacjcefajlaa

/- count, Big, Size, Depth. -/
namespace Go.Proofs.Ytmglacjcefajlaa
open Go.RowKit Go.Shelf

mutual
def cnt : Tr → Nat → Int
 | .mk _ _ _ c, d => if d = 0 then -1 else cntL c (d - 1) 1
def cntL : List Tr → Nat → Int → Int
 | [], _, s => s
 | t :: r, d, s => if cnt t d < 0 ∨ 1000 < s then -1 else cntL r d (s + cnt t d)
end

mutual
theorem cnt_bd : ∀ (t : Tr) (d : Nat), -1 ≤ cnt t d ∧ cnt t d ≤ 1000 * d + 1
 | .mk _ _ _ c, d => by
  unfold cnt
  by_cases h : d = 0
  ·rw [if_pos h]; omega
  ·rw [if_neg h]
   have := cntL_bd c (d - 1) 1 (by omega) (by omega)
   omega
theorem cntL_bd : ∀ (c : List Tr) (d : Nat) (s : Int), 0 ≤ s → s ≤ 1000 * d + 1001 → -1 ≤ cntL c d s ∧ cntL c d s ≤ 1000 * d + 1001
 | [], d, s, h0, h1 => by unfold cntL; omega
 | t :: r, d, s, h0, h1 => by
  unfold cntL
  have ht := cnt_bd t d
  by_cases h : cnt t d < 0 ∨ 1000 < s
  ·rw [if_pos h]; omega
  ·rw [if_neg h]
   exact cntL_bd r d _ (by omega) (by omega)
end

mutual
theorem cnt_size : ∀ (t : Tr) (d : Nat), 0 ≤ cnt t d → cnt t d = t.size ∧ t.depth ≤ d
 | .mk _ _ _ c, d, h => by
  unfold cnt at h ⊢
  by_cases hd : d = 0
  ·rw [if_pos hd] at h; omega
  ·rw [if_neg hd] at h ⊢
   have := cntL_size c (d - 1) 1 h
   simp only [Tr.size, Tr.depth]
   omega
theorem cntL_size : ∀ (c : List Tr) (d : Nat) (s : Int), 0 ≤ cntL c d s → cntL c d s = s + Tr.sizes c ∧ Tr.depths c ≤ d
 | [], d, s, h => by simp [cntL, Tr.sizes, Tr.depths]
 | t :: r, d, s, h => by
  unfold cntL at h ⊢
  by_cases hc : cnt t d < 0 ∨ 1000 < s
  ·rw [if_pos hc] at h; omega
  ·rw [if_neg hc] at h ⊢
   have h1 := cntL_size r d _ h
   have h2 := cnt_size t d (by omega)
   simp only [Tr.sizes, Tr.depths]
   omega
end

def bigB (t : Tr) : Bool := decide (cnt t 100 < 0) || decide (400 < cnt t 100)
theorem bigB_no {t : Tr} (h : bigB t = false) : t.size ≤ 400 ∧ t.depth ≤ 100 := by
 simp only [bigB, Bool.or_eq_false_iff, decide_eq_false_iff_not] at h
 have := cnt_size t 100 (by omega)
 omega

end Go.Proofs.Ytmglacjcefajlaa
