/- Frames, in plain Lean. -/
import Derived.Test.YthgdibdapjaljaaLa9
namespace Go.Proofs.Ythgdibdapjaljaa
open Go.RowKit

theorem dclF_foldl (l : List Vd) : ∀ {s : List Vd} {f g : Fm}, dclF s l f = some g → g = l.foldl addF f := by
 induction l with
 | nil => intro s f g h; simp only [dclF, Option.some.injEq] at h; exact h.symm
 | cons v l ih =>
  intro s f g h
  simp only [dclF] at h
  split at h
  ·cases h
  ·exact ih h
def tr3 (s : Slt) : ByteArray × Int × Int := (s.name, s.kind, s.len)
theorem foldl_slots (l : List Vd) : ∀ f : Fm, (l.foldl addF f).slots.map tr3 = f.slots.map tr3 ++ l.map (fun v => (v.name, v.kind, v.len)) := by
 induction l with
 | nil => intro f; simp
 | cons v l ih => intro f; rw [List.foldl_cons, ih]; simp [addF, tr3]
theorem foldF_len (l : List Vd) : (foldF l).slots.length = l.length := by
 have h := congrArg List.length (foldl_slots l zF)
 simp only [zlm, zla] at h
 show (l.foldl addF zF).slots.length = _
 rw [h]; exact Nat.zero_add _
theorem locS_ext {l : List Vd} {f g : Fm} {m : Tr} (h : locS l f m = some g) : ∃ E, g.slots = f.slots ++ E ∧ E.length ≤ 1 ∧ f.cells ≤ g.cells ∧ f.stacks ≤ g.stacks := by
 unfold locS at h
 split at h
 ·cases h; exact ⟨[], by simp, by simp, Int.le_refl _, Int.le_refl _⟩
 ·rename_i v hv
  split at h
  ·cases h
  ·split at h
   ·cases h; exact ⟨[], by simp, by simp, Int.le_refl _, Int.le_refl _⟩
   ·cases h
    have h0 := (dcl_len (locV_dcl hv)).1
    refine ⟨_, rfl, by simp, ?_, ?_⟩
    ·simp only [addF]; split
     ·exact Int.le_refl _
     ·split <;> omega
    ·simp only [addF]; split <;> omega
theorem locF_ext {l : List Vd} : ∀ {W : List Tr} {f g : Fm}, locF l W f = some g → ∃ E, g.slots = f.slots ++ E ∧ E.length ≤ W.length ∧ f.cells ≤ g.cells ∧ f.stacks ≤ g.stacks
 | [], f, g, h => by simp only [locF, Option.some.injEq] at h; subst h; exact ⟨[], by simp, by simp, Int.le_refl _, Int.le_refl _⟩
 | m :: W, f, g, h => by
  simp only [locF, Option.bind_eq_some_iff] at h
  obtain ⟨f1, h1, h2⟩ := h
  obtain ⟨E1, a1, b1, c1, d1⟩ := locS_ext h1
  obtain ⟨E2, a2, b2, c2, d2⟩ := locF_ext h2
  exact ⟨E1 ++ E2, by rw [a2, a1, zaa], by simp only [zla, zlc]; omega, by omega, by omega⟩
theorem ofF_cases (l : List Vd) (t : Tr) : ((ofF l t).2 = 0 ∧ dclsB l = true ∧ blockB t = true ∧ dclF [] l zF = some (foldF l) ∧ locF l ((walkL [] t).map (·.2)) (foldF l) = some (ofF l t).1) ∨ ((ofF l t).2 ≠ 0 ∧ (ofF l t).1 = zF) := by
 cases hb : (dclsB l && blockB t) with
 | false => right; rw [ofF_bad hb]; exact ⟨by decide, rfl⟩
 | true =>
  rw [zat] at hb
  cases hq : (dclF [] l zF).bind (locF l ((walkL [] t).map (·.2))) with
  | none => right; rw [ofF_none hb.1 hb.2 hq]; exact ⟨by decide, rfl⟩
  | some f =>
   left
   rw [ofF_some hb.1 hb.2 hq]
   rw [Option.bind_eq_some_iff] at hq
   obtain ⟨g, h1, h2⟩ := hq
   have := dclF_foldl l h1
   subst this
   exact ⟨rfl, hb.1, hb.2, h1, h2⟩
theorem ofF_len (l : List Vd) (t : Tr) : (ofF l t).1.slots.length ≤ 32 + t.size := by
 rcases ofF_cases l t with ⟨_, h1, _, _, h⟩ | ⟨_, h⟩
 ·obtain ⟨E, a, b, _⟩ := locF_ext h
  rw [a, zla, foldF_len]
  rw [zlm, walkL_len] at b
  have : l.length ≤ 32 := by
   unfold dclsB at h1
   rw [zat, decide_eq_true_eq] at h1
   exact h1.1
  omega
 ·rw [h]; simp [zF]
/-- the empty block -/
def e0 : Tr := .mk 57 0 ⟨#[]⟩ []
end Go.Proofs.Ythgdibdapjaljaa
