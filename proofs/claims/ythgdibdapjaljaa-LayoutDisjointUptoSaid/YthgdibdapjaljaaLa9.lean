/- Layouts over data: the reference. -/
import Derived.Test.YthgdibdapjaljaaLa8
namespace Go.Proofs.Ythgdibdapjaljaa
open Go.RowKit
def foldF (l : List Vd) : Fm := l.foldl addF zF
theorem locV_dcl {t : Tr} {v : Vd} (h : locV t = some v) : dclB v = true := by
 unfold locV at h
 split at h
 ·cases h; rfl
 ·split at h
  ·cases h; rfl
  ·cases h
/-- the row of a frame under way -/
structure FrX (o : Own) (n : Nat) (M : List D) (f : Fm) : Prop where
 s : (D.slice o n M).strip = sl 4 (f.slots.map dSl)
 u : D.unders 0 M = true
theorem FrX.nil : FrX .nil 0 [] zF := ⟨rfl, rfl⟩
theorem FrX.imm (f : Fm) : FrX .imm (if (f.slots.map dSl).isEmpty = true then 0 else 4) (f.slots.map dSl) f := ⟨by
 have h := sl_strip (n := 4) (map_strip dSl_strip f.slots)
 simpa only [sl] using h, unders_id dSl_under 0 _⟩
theorem FrX.st {o : Own} {n : Nat} {M : List D} {f : Fm} (h : FrX o n M f) : (D.agg [.slice o n M, .int .i64 f.cells, .int .i64 f.stacks]).strip = dFm f := by
 have h2 : ∀ a b c : D, (D.agg [a, b, c]).strip = .agg [a.strip, b.strip, c.strip] := fun _ _ _ => by simp only [D.strip, D.strips]
 rw [h2, h.s]; rfl
end Go.Proofs.Ythgdibdapjaljaa
