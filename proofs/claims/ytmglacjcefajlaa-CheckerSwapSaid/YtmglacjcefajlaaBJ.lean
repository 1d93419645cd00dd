import Derived.OrdersIn
import Derived.RangeFuncNested
import Derived.OwnWalkIn
import Derived.WalkKit
/- A region that draws its order, by an invariant: whatever order its edges allow. Every operation writes a slot of its own. No program in sight. -/
namespace Go.Proofs.Ytmglacjcefajlaa
open Go.RowKit

theorem count_set (l : List Bool) : ∀ (i : Nat), l.getD i true = false → (l.set i true).count false + 1 = l.count false := by
 induction l with
 | nil => intro i h; simp at h
 | cons b r ih =>
  intro i h
  cases i with
  | zero => simp at h; subst h; simp
  | succ i =>
   have := ih i (by simpa using h)
   simp only [List.set_cons_succ, List.count_cons]
   omega

section
variable {F : Fence} {n : Nat} {P : Program} {md : Region.Mode} {ops : Array Oper} {Q : Exit → Act → World → Prop}

theorem wpAnyIn_inv (Inv : Array Bool → Act → World → Prop)
  (hstep : ∀ (listed : Array Bool) (a : Act) (w : World) (i : Nat) (o : Oper), Inv listed a w → listed.getD i true = false → ops[i]? = some o → (∀ e ∈ o.after, Region.binds md e = true → listed.getD e.on false = true) →
   if Region.wanted o (yielded ops a.tmps) then o.wpIn F n P a w (Inv (listed.setIfInBounds i true)) Q else (∀ f, o.about P w a.eval = some f → F.fn f) ∧ Inv (listed.setIfInBounds i true) (a.put o.dst undef) w)
  (hend : ∀ (listed : Array Bool) (a : Act) (w : World), Inv listed a w → Region.ready md ops listed = [] → Q .normal a w) :
  ∀ (fuel : Nat) (listed : Array Bool) (a : Act) (w : World), Inv listed a w → listed.toList.count false ≤ fuel → wpAnyIn F n P md ops Q fuel listed a w := by
 intro fuel
 induction fuel with
 | zero =>
  intro listed a w h hc
  have hr : Region.ready md ops listed = [] := by
   cases hq : Region.ready md ops listed with
   | nil => rfl
   | cons j r =>
    have hj : j ∈ Region.ready md ops listed := by rw [hq]; exact List.mem_cons_self
    have h0 := (mem_ready.1 hj).1
    have hm : false ∈ listed.toList := by
     have : listed[j]? = some false := by
      rw [Array.getD_eq_getD_getElem?] at h0
      cases hx : listed[j]? with
      | none => rw [hx] at h0; simp at h0
      | some b => rw [hx] at h0; simp at h0; rw [h0]
     exact List.mem_of_getElem? (by simpa using this)
    have := List.count_pos_iff.2 hm
    omega
  exact ⟨hr, hend _ _ _ h hr⟩
 | succ fuel ih =>
  intro listed a w h hc
  refine ⟨fun h0 => hend _ _ _ h h0, fun i hi => ?_⟩
  obtain ⟨hun, o, ho, hall⟩ := mem_ready.1 hi
  have hs := hstep listed a w i o h hun ho hall
  have hcnt : (listed.setIfInBounds i true).toList.count false ≤ fuel := by
   have := count_set listed.toList i (by rw [Array.getD_eq_getD_getElem?] at hun; simpa [List.getD] using hun)
   simp only [Array.toList_setIfInBounds]
   omega
  unfold wpOpIn
  rw [ho]
  dsimp only
  split
  ·rename_i hw
   rw [if_pos hw] at hs
   exact Oper.wpIn_mono (fun a' w' h' => ih _ _ _ h' hcnt) hs
  ·rename_i hw
   rw [if_neg hw] at hs
   exact ⟨hs.1, ih _ _ _ hs.2 hcnt⟩

/-- what holds in the middle of the region -/
structure RInv (N : Nat) (s : Nat → Nat) (C : World → Prop) (Φ : Nat → Value → World → Prop) (a0 : Act) (listed : Array Bool) (a : Act) (w : World) : Prop where
 size : listed.size = N
 cw : C w
 tsize : a.tmps.size = a0.tmps.size
 room : ∀ j, j < N → s j < a0.tmps.size
 inj : ∀ i j, i < N → j < N → s i = s j → i = j
 defers : a.defers = a0.defers
 fixed : ∀ t, (∀ j, j < N → s j ≠ t) → a.tmps[t]? = a0.tmps[t]?
 phi : ∀ j, j < N → listed.getD j false = true → ∃ v, a.tmps[s j]? = some v ∧ Φ j v w

end

/-- what an operation's slot holds: a value, or a value that leads to a block of a known content -/
inductive RSpec where
 | is (v : Value)
 | new (f : Nat → Value) (o : Obj)
end Go.Proofs.Ytmglacjcefajlaa

/- A region that draws its order, walked in one order: what only computes or loads is taken as soon as it may come up; what acts comes up one at a time. No program in sight. -/
namespace Go.Proofs.Ytmglacjcefajlaa
open Go.RowKit

def onlyN (Q : Exit → Act → World → Prop) : Exit → Act → World → Prop
 | .normal, a, w => Q .normal a w
 | _, _, _ => False
theorem onlyN.imp {Q : Exit → Act → World → Prop} : ∀ (e : Exit) (a : Act) (w : World), onlyN Q e a w → Q e a w := fun e a w h => by
 cases e <;> first | exact h | exact (h : False).elim

section
variable {F : Fence} {n : Nat} {P : Program} {ops : Array Oper} {Q : Exit → Act → World → Prop} {hd : List Nat}
/-- the operation yields v here, and in every later world in which the old memory is as it was (in every world, where it is free) -/
def YieldsK (P : Program) (ops : Array Oper) (o : Oper) (v : Value) (a : Act) (w : World) (free : Bool) : Prop :=
 (Region.wanted o (yielded ops a.tmps) = true ∧ ∀ w', (free = false → Below w.heap.size w w') → (execOp a.eval o).run P w' = .ok (.value v) w') ∨
 (Region.wanted o (yielded ops a.tmps) = false ∧ v = undef)

theorem YieldsK.wpOpIn {i : Nat} {o : Oper} {v : Value} {a : Act} {w : World} {free : Bool} (hfn : ∀ f, F.fn f) (hdf : ∀ c, o.op ≠ .defer c) (hi : ops[i]? = some o) (hy : YieldsK P ops o v a w free)
  {K : Act → World → Prop} (h : K (a.put o.dst v) w) : wpOpIn F n P ops (onlyN Q) i K a w := by
 unfold Go.wpOpIn
 simp only [hi]
 rcases hy with ⟨hw, hv⟩ | ⟨hw, rfl⟩
 ·simp only [hw, if_true, Oper.wpIn, Oper.semAt_plain F _ _ hdf, hv w (fun _ => Below.refl _ _), Oper.uponIn]; exact ⟨fun f _ => hfn f, h⟩
 ·simp only [hw, Bool.false_eq_true, if_false]; exact ⟨fun f _ => hfn f, h⟩

theorem YieldsK.later {o : Oper} {v : Value} {a : Act} {w w1 : World} {free : Bool} (hy : YieldsK P ops o v a w free) (hb : free = false → Below w.heap.size w w1) : YieldsK P ops o v a w1 free :=
 hy.imp (fun ⟨hw, hv⟩ => ⟨hw, fun w' h' => hv w' fun e => (hb e).trans ((h' e).mono (hb e).size)⟩) id

inductive Chain (ops : Array Oper) : Nat → Nat → Prop
 | one {j i : Nat} {o : Oper} {e : Edge} : ops[j]? = some o → e ∈ o.after → Region.binds .any e = true → e.on = i → Chain ops j i
 | more {j k i : Nat} {o : Oper} {e : Edge} : ops[j]? = some o → e ∈ o.after → Region.binds .any e = true → e.on = k → Chain ops k i → Chain ops j i
/-- what is listed waited for what is listed -/
def Closed (ops : Array Oper) (listed : Array Bool) : Prop := ∀ j o, ops[j]? = some o → listed.getD j false = true → ∀ e ∈ o.after, Region.binds .any e = true → listed.getD e.on false = true
theorem Chain.listed {listed : Array Bool} (hc : Closed ops listed) {j i : Nat} (h : Chain ops j i) : ∀ o, ops[j]? = some o → (∀ e ∈ o.after, Region.binds .any e = true → listed.getD e.on false = true) → listed.getD i false = true := by
 induction h with
 | one ho he hb hi =>
  intro o' ho' hall
  rw [ho] at ho'
  cases ho'
  rw [← hi]
  exact hall _ he hb
 | more ho he hb hk hch ih =>
  intro o' ho' hall
  rw [ho] at ho'
  cases ho'
  have h1 := hall _ he hb
  rw [hk] at h1
  cases hch with
  | one ho2 _ _ _ => exact ih _ ho2 (hc _ _ ho2 h1)
  | more ho2 _ _ _ _ => exact ih _ ho2 (hc _ _ ho2 h1)
theorem Closed.set {listed : Array Bool} (hc : Closed ops listed) {j : Nat} (hj : j ∈ Region.ready .any ops listed) : Closed ops (listed.setIfInBounds j true) := by
 obtain ⟨hun, oj, hoj, hall⟩ := mem_ready.1 hj
 have up : ∀ k, listed.getD k false = true → (listed.setIfInBounds j true).getD k false = true := fun k hk => by
  by_cases e : j = k
  ·subst e
   rw [Array.getD_eq_getD_getElem?, Array.getElem?_setIfInBounds]
   simp only [if_true]
   split
   ·rfl
   ·rename_i hge
    rw [Array.getD_eq_getD_getElem?, Array.getElem?_eq_none (by omega)] at hk
    cases hk
  ·rw [getD_set_ne false e]; exact hk
 intro k o ho hl e he hb
 by_cases ejk : j = k
 ·subst ejk
  rw [hoj] at ho
  cases ho
  exact up _ (hall e he hb)
 ·rw [getD_set_ne false ejk] at hl
  exact up _ (hc k o ho hl e he hb)

end
end Go.Proofs.Ytmglacjcefajlaa
