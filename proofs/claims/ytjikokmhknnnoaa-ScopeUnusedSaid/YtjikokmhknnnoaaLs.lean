import Derived.Test.YtjikokmhknnnoaaAmZ
/- Regions with operations by hand, one after another: loads and stores in a row of one's own. Over any program. -/
namespace Go.Proofs.Ytjikokmhknnnoaa
open Go.RowKit

/-- what the rest of a region does -/
def LS (P : Program) (ops rest : List Oper) (σ : St) (Q : Ex → St → Prop) : Prop := ∃ σ', LWp P ops.toArray rest σ σ' ∧ Q .normal σ'
section
variable {E : Env} {P : Program} {B id : Nat} {ops rest : List Oper} {o : Oper} {σ σ1 : St} {Q : Ex → St → Prop}
theorem LS_nil (h : Q .normal σ) : LS P ops [] σ Q := ⟨σ, LWp_nil, h⟩
theorem LS_hand (h1 : SWp P ops.toArray o σ σ1) (h2 : LS P ops rest σ1 Q) : LS P ops (o :: rest) σ Q := by
 obtain ⟨σ', h3, h4⟩ := h2
 exact ⟨σ', LWp_cons h1 h3, h4⟩
theorem LWp_front (hE : E.Ok) : ∀ {l r : List Oper} {σ σ1 σ' : St}, l.all opOk = true → aops E.P (cal E) ops l σ = some σ1 → LWp E.P ops.toArray r σ1 σ' → LWp E.P ops.toArray (l ++ r) σ σ'
 | [], _, _, _, _, _, h, k => by cases h; exact k
 | o :: l, r, σ, σ1, σ', hok, h, k => by
  simp only [List.all_cons, zat] at hok
  cases hq : astep E.P (cal E) ops σ o with
  | none => simp only [aops, hq] at h; cases h
  | some σ2 =>
   simp only [aops, hq] at h
   exact LWp_cons (SWp_op hE hok.1 (by simpa using hq)) (LWp_front hE hok.2 h k)
theorem LS_ops (hE : E.Ok) (c : Nat) (hok : (rest.take c).all opOk = true) (h : ∀ R : Option St → Prop, (∀ σ1, LS E.P ops (rest.drop c) σ1 Q → R (some σ1)) → R (aops E.P (cal E) ops (rest.take c) σ)) : LS E.P ops rest σ Q := by
 obtain ⟨σ1, e1, σ', h3, h4⟩ := h (fun x => ∃ σ1, x = some σ1 ∧ LS E.P ops (rest.drop c) σ1 Q) fun σ1 hq => ⟨σ1, rfl, hq⟩
 have := LWp_front hE hok e1 h3
 rw [List.take_append_drop] at this
 exact ⟨σ', this, h4⟩
theorem S_ls (h : LS P ops ops σ Q) : S P B (.region id ops.toArray false) σ Q := by
 obtain ⟨σ', h1, h2⟩ := h
 exact S_reg h1 h2
theorem LS_load {t : TypeId} {s i off ln : Nat} (hw : awant ops σ.fr o = true) (ho : o.op = .load t (.tmp s)) (hp : ev σ.fr (.tmp s) = .bsl i off 0 ln)
  (h : ∀ R : Option D → Prop, (∀ d, LS P ops rest (σ.put o.dst d) Q → R (some d)) → R (aop P (fun _ => .ptr i off) (fun i => σ.bx[i]?) o)) : LS P ops (o :: rest) σ Q := by
 obtain ⟨d, h1, h2⟩ := h (fun x => ∃ d, x = some d ∧ LS P ops rest (σ.put o.dst d) Q) fun d hq => ⟨d, rfl, hq⟩
 exact LS_hand (SWp_load (by simpa using hw) ho hp h1) h2
theorem LS_field {t : TypeId} {s f i off ln off' : Nat} (hw : awant ops σ.fr o = true) (ho : o.op = .fieldAddr t (.tmp s) f) (hp : ev σ.fr (.tmp s) = .bsl i off 0 ln) (h : aop P (fun _ => .ptr i off) (fun i => σ.bx[i]?) o = some (.ptr i off'))
  (hq : LS P ops rest (σ.put o.dst (.bsl i off' 0 0)) Q) : LS P ops (o :: rest) σ Q := LS_hand (SWp_field (by simpa using hw) ho hp h) hq
end
end Go.Proofs.Ytjikokmhknnnoaa
