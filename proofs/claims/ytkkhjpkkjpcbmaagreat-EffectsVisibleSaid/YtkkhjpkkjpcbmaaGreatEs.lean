import Derived.Test.YtkkhjpkkjpcbmaaGreatBA
import Derived.Shelf.SlMaps.Copy
import Derived.Maps.OwnSet
import Derived.Sort.KeysCollected
/- Sets of names as maps in memory. Over any program. -/
namespace Go.Proofs.YtkkhjpkkjpcbmaaGreat
open Go.RowKit Go.Maps Go.Shelf

abbrev Nm := List UInt8
/-- the datum's keys are the names of L, each bound to true -/
def IsSet (D : DataW Unit) (L : List Nm) : Prop := ∀ s : Nm, has D (.string s) = decide (s ∈ L) ∧ (s ∈ L → ∀ z, D.atKey (.string s) z = .lit (.bool true))
/-- block b is a map of at most n entries: the names of L, each bound to true -/
def SetAt (P : Program) (k e : TypeId) (w : World) (b n : Nat) (L : List Nm) : Prop := ∃ D : DataW Unit, w.ownsMap P k (plainElem P e) b n D ∧ IsSet D L
section
variable {P : Program} {k e : TypeId} {w : World} {b n : Nat} {L M : List Nm}
theorem IsSet.congr {D : DataW Unit} (h : IsSet D L) (q : ∀ s, s ∈ L ↔ s ∈ M) : IsSet D M := fun s => by
 obtain ⟨h1, h2⟩ := h s
 refine ⟨?_, fun hs => h2 ((q s).2 hs)⟩
 rw [h1]
 exact decide_eq_decide.2 (q s)
theorem SetAt.congr (h : SetAt P k e w b n L) (q : ∀ s, s ∈ L ↔ s ∈ M) : SetAt P k e w b n M := let ⟨D, h1, h2⟩ := h; ⟨D, h1, h2.congr q⟩
theorem SetAt.mono (h : SetAt P k e w b n L) {m : Nat} (hm : n ≤ m) : SetAt P k e w b m L := let ⟨D, h1, h2⟩ := h; ⟨D, h1.mono hm, h2⟩
theorem SetAt.lt (h : SetAt P k e w b n L) : b < w.heap.size := let ⟨_, h1, _⟩ := h; h1.lt
theorem SetAt.kept (h : SetAt P k e w b n L) {w' : World} {row : Option Nat} (hg : w.grownBy w' row) (hne : some b ≠ row) : SetAt P k e w' b n L := let ⟨D, h1, h2⟩ := h; ⟨D, h1.kept hg hne, h2⟩
theorem SetAt.below (h : SetAt P k e w b n L) {w' : World} {B : Nat} (hb : Below B w w') (hB : b < B) : SetAt P k e w' b n L := by
 obtain ⟨D, ⟨es, clock, h1, h2⟩, h3⟩ := h
 exact ⟨D, ⟨es, clock, (hb.block b hB).trans h1, h2⟩, h3⟩
theorem setAt_made (w : World) (P : Program) (k e : TypeId) : SetAt P k e (w.alloc (.map #[] 0)) w.heap.size 0 [] :=
 ⟨.map [], World.ownsMap_made w P k _, fun s => ⟨by simp [has], fun h => by cases h⟩⟩
theorem isSet_put {D : DataW Unit} (hm : IsMap D) (h : IsSet D L) (s : Nm) : IsSet (D.put (.string s) (.lit (.bool true))) (L ++ [s]) := fun x => by
 by_cases hx : x = s
 ·subst hx
  refine ⟨?_, fun _ z => atKey_put_same hm (show WideAt.IsKeyLit (.string x) from trivial) _ z⟩
  rw [has_put_same hm (show WideAt.IsKeyLit (.string x) from trivial)]
  simp
 ·have hne : (Lit.string x) ≠ .string s := fun e => hx (by cases e; rfl)
  refine ⟨?_, fun hs z => ?_⟩
  ·rw [has_put_other hne, (h x).1]
   simp [hx]
  ·rw [atKey_put_other hne]
   exact (h x).2 (by simpa [hx] using hs) z
theorem isSet_del {D : DataW Unit} (h : IsSet D L) (s : Nm) : IsSet (D.del (.string s)) (L.filter (fun x => x != s)) := fun x => by
 by_cases hx : x = s
 ·subst hx
  refine ⟨?_, fun hs => ?_⟩
  ·rw [has_del_same]; simp
  ·simp at hs
 ·have hne : (Lit.string x) ≠ .string s := fun e => hx (by cases e; rfl)
  refine ⟨?_, fun hs z => ?_⟩
  ·rw [has_del_other hne, (h x).1]
   simp [hx]
  ·rw [atKey_del_other hne]
   exact (h x).2 (by simpa [hx] using hs) z
theorem isSet_merge {Kd : Lit → Prop} (O : OneKind Kd) {Dd Ds : DataW Unit} (cd : CanonK Kd Dd) (cs : CanonK Kd Ds) (hd : IsSet Dd L) (hs : IsSet Ds M) : IsSet (Lib.mergeD Dd Ds) (L ++ M) := by
 obtain ⟨ess, rfl, rs, ks⟩ := cs
 have hmD : IsMap Dd := by obtain ⟨es, rfl, _⟩ := cd; exact ⟨_, rfl⟩
 have klit : ∀ p ∈ ess, WideAt.IsKeyLit p.1 := fun p hp => O.key (ks p hp)
 have hh : ∀ x, ess.any (fun p => p.1.sameKey (.string x)) = decide (x ∈ M) := fun x => by rw [← (hs x).1, has_eq]
 intro x
 refine ⟨?_, fun hx z => ?_⟩
 ·show has (ess.foldl (fun D p => D.put p.1 p.2) Dd) (.string x) = _
  rw [has_foldPut _ ess Dd hmD klit, (hd x).1, hh x]
  simp
 ·show (ess.foldl (fun D p => D.put p.1 p.2) Dd).atKey (.string x) z = _
  rw [atKey_foldPut _ z ess Dd hmD klit (apart_of_rising rs)]
  cases hf : ess.find? (fun p => p.1.sameKey (.string x)) with
  | none =>
   have h0 : x ∉ M := by
    have := hh x
    rw [List.any_eq_false.2 (fun p hp => by simpa using List.find?_eq_none.1 hf p hp)] at this
    simpa using this.symm
   exact (hd x).2 (by simpa [h0] using hx) z
  | some p =>
   have h1 : x ∈ M := by
    have := hh x
    rw [List.any_eq_true.2 ⟨p, List.mem_of_find?_eq_some hf, List.find?_some (p := fun (q : Lit × DataW Unit) => q.1.sameKey (.string x)) hf⟩] at this
    simpa using this.symm
   have h2 := (hs x).2 h1 z
   have h3 : (DataW.map ess).atKey (.string x) z = p.2 := by
    simp only [DataW.atKey, hf]
   rw [h3] at h2
   exact h2
end
end Go.Proofs.YtkkhjpkkjpcbmaaGreat
