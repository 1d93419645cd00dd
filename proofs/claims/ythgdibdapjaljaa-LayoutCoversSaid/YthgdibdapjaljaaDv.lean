import Derived.Test.YthgdibdapjaljaaAmZ
/- A region that draws its order and stores into a variable that it finds. Over any program. -/
namespace Go.Proofs.Ythgdibdapjaljaa
open Go.RowKit

def notAt (i : Nat) : D → Bool
 | .ptr j _ => j != i
 | _ => true
def ldT (l : List Oper) : List Nat := l.filterMap fun o => match o.op with
 | .load _ (.tmp r) => some r
 | _ => none
def stT (ops : List Oper) (c : Nat) : Option Nat := match ops[c]? with
 | some o => (match o.op with
  | .store _ (.tmp t) _ => some t
  | _ => none)
 | none => none
theorem apart_of {i : Nat} {fr : List D} {l : List Oper} {ts : List Nat} (h1 : ldT l = ts) (h2 : (ts.all fun r => notAt i (ev fr (.tmp r))) = true) : Apart i fr l := by
 intro o ho t r off hop e
 have hm : r ∈ ts := by rw [← h1]; exact List.mem_filterMap.2 ⟨o, ho, by rw [hop]⟩
 have := List.all_eq_true.1 h2 r hm
 rw [e] at this
 simp [notAt] at this
theorem S_dv {E : Env} (hE : E.Ok) {ca : Nat → List D → St → Option (D × St)} (hca : CaOk E.P ca) {B id : Nat} {ops : List Oper} {σ : St} {Q : Ex → St → Prop} (c i t : Nat) (ts : List Nat) (hc : c ≤ ops.length) (hok : drawOkF floatV ops.toArray c = true) (hlt : i < σ.bx.length) (hst : stT ops c = some t) (hld : ldT (ops.take c) = ts)
  (h : ∀ R : Option St → Prop, (∀ σ1, ev σ1.fr (.tmp t) = .ptr i 0 → (ts.all fun r => notAt i (ev σ1.fr (.tmp r))) = true → (∀ R' : Option St → Prop, (∀ σ', Q .normal σ' → R' (some σ')) → R' (aops E.P ca ops (ops.drop c) σ1)) → R (some σ1)) → R (aops E.P (pcall (fn E)) ops (ops.take c) σ)) : S E.P B (.region id ops.toArray true) σ Q := by
 obtain ⟨σ1, h1, h2, h3, h4⟩ := h (fun o => ∃ σ1, o = some σ1 ∧ ev σ1.fr (.tmp t) = .ptr i 0 ∧ (ts.all fun r => notAt i (ev σ1.fr (.tmp r))) = true ∧ ∃ σ', aops E.P ca ops (ops.drop c) σ1 = some σ' ∧ Q .normal σ') fun σ1 q1 q2 hq => ⟨σ1, rfl, q1, q2, hq (fun o => ∃ σ', o = some σ' ∧ Q .normal σ') fun σ' q => ⟨σ', rfl, q⟩⟩
 obtain ⟨σ', h5, hq⟩ := h4
 intro base w0 ok0 gs ws ds T g a w hβ hsz hrel hext hmk hT
 have hp : PCallOk E.P (fn E) := fun k args d h => fn_sound E hE h
 refine draw_wpV (c := c) (i0 := i) hlt (fun o ty t' x ho hop => ?_) (apart_of (by simpa using hld) h3) hE.mixed hp (hca _ _ _) hok (by simpa using hc) hrel (by simpa using h1) (by simpa using h5) (fun a' w' g' q1 q2 q3 => hT .normal σ' a' w' g' hq q1 (hext.trans q2) (hmk.trans q2 hsz (.of_eq q3)))
 have : t' = t := by
  unfold stT at hst
  rw [show ops[c]? = some o from by simpa using ho] at hst
  simp only [hop, Option.some.injEq] at hst
  exact hst
 subst this
 exact h2
end Go.Proofs.Ythgdibdapjaljaa
