import Derived.Test.YtmglacjcefajlaaAmZ
/- Regions with operations by hand, one after another: loads and stores in a row of one's own. Over any program. -/
namespace Go.Proofs.Ytmglacjcefajlaa
open Go.RowKit

/-- what the rest of a region does -/
def LS (P : Program) (ops rest : List Oper) (σ : St) (Q : Ex → St → Prop) : Prop := ∃ σ', LWp P ops.toArray rest σ σ' ∧ Q .normal σ'
section
variable {E : Env} {P : Program} {B id : Nat} {ops rest : List Oper} {o : Oper} {σ σ1 : St} {Q : Ex → St → Prop}
theorem LS_nil (h : Q .normal σ) : LS P ops [] σ Q := ⟨σ, LWp_nil, h⟩
theorem LS_hand (h1 : SWp P ops.toArray o σ σ1) (h2 : LS P ops rest σ1 Q) : LS P ops (o :: rest) σ Q := by
 obtain ⟨σ', h3, h4⟩ := h2
 exact ⟨σ', LWp_cons h1 h3, h4⟩
theorem LWp_front (hE : E.Ok) : ∀ {l r : List Oper} {σ σ1 σ' : St}, l.all opOk = true → aops E.P (cal E) ops l σ = some σ1 → LWp E.P ops.toArray r σ1 σ' → LWp E.P ops.toArray (l ++ r) σ σ'
 | [], _, _, _, _, _, h, k => by cases h; exact k
 | o :: l, r, σ, σ1, σ', hok, h, k => by
  simp only [List.all_cons, zat] at hok
  cases hq : astep E.P (cal E) ops σ o with
  | none => simp only [aops, hq] at h; cases h
  | some σ2 =>
   simp only [aops, hq] at h
   exact LWp_cons (SWp_op hE hok.1 (by simpa using hq)) (LWp_front hE hok.2 h k)
theorem LS_ops (hE : E.Ok) (c : Nat) (hok : (rest.take c).all opOk = true) (h : ∀ R : Option St → Prop, (∀ σ1, LS E.P ops (rest.drop c) σ1 Q → R (some σ1)) → R (aops E.P (cal E) ops (rest.take c) σ)) : LS E.P ops rest σ Q := by
 obtain ⟨σ1, e1, σ', h3, h4⟩ := h (fun x => ∃ σ1, x = some σ1 ∧ LS E.P ops (rest.drop c) σ1 Q) fun σ1 hq => ⟨σ1, rfl, hq⟩
 have := LWp_front hE hok e1 h3
 rw [List.take_append_drop] at this
 exact ⟨σ', this, h4⟩
theorem S_ls (h : LS P ops ops σ Q) : S P B (.region id ops.toArray false) σ Q := by
 obtain ⟨σ', h1, h2⟩ := h
 exact S_reg h1 h2
theorem LS_field {t : TypeId} {s f i off ln off' : Nat} (hw : awant ops σ.fr o = true) (ho : o.op = .fieldAddr t (.tmp s) f) (hp : ev σ.fr (.tmp s) = .bsl i off 0 ln) (h : aop P (fun _ => .ptr i off) (fun i => σ.bx[i]?) o = some (.ptr i off'))
  (hq : LS P ops rest (σ.put o.dst (.bsl i off' 0 0)) Q) : LS P ops (o :: rest) σ Q := LS_hand (SWp_field (by simpa using hw) ho hp h) hq
/-- what is appended to an empty row of one's own, as a box -/
theorem LS_app {c : Call} {a x st n2 : Nat} {t e : TypeId} {i : TypeInfo} {z : Value} {q2 : Own} {l : List D} (hw : awant ops σ.fr o = true) (ho : o.op = .call c) (hc : c.callee = .builtin .append) (ha : c.args = #[.tmp a, .tmp x]) (ht : c.argTypes = #[t, t]) (hu : P.underlying t = some (.slice e)) (hi : P.info? e = some i) (hz : i.zero = some z) (hzs : z.cells.size = i.size) (hpos : 0 < i.size) (hby : i.bytes ≤ 4096)
  (hva : ev σ.fr (.tmp a) = .slice (.own st e) i.size []) (hvx : ev σ.fr (.tmp x) = .slice q2 n2 l) (hn2 : n2 = i.size) (hst : st ∈ σ.lv) (hl : l ≠ []) (hlen : l.length ≤ 1000000)
  (hq : LS P ops rest (({ σ with bx := σ.bx ++ [l.flatMap D.cells], lv := σ.lv.filter (· != st) } : St).put o.dst (.bsl σ.bx.length 0 i.size l.length)) Q) : LS P ops (o :: rest) σ Q := by
 subst hn2
 refine LS_hand (SWp_hand (σ1 := { σ with bx := σ.bx ++ [l.flatMap D.cells], lv := σ.lv.filter (· != st) }) (d := .bsl σ.bx.length 0 i.size l.length) (by simpa using hw) (fun c' q => by rw [ho] at q; cases q) rfl (fun base w0 ok0 g am w hr => ?_)) hq
 have h5 := ev_val hr.fr hr.len (.tmp a) (.inr ⟨a, rfl⟩)
 have h6 := ev_val hr.fr hr.len (.tmp x) (.inr ⟨x, rfl⟩)
 rw [hva] at h5
 rw [hvx] at h6
 obtain ⟨v', w', g', q1, q2, q3, q4⟩ := append_box (ty := o.type) (bi := σ.bx.length) hr.rs hu hi hz hzs hpos h5 h6 hl (.inr ⟨st, rfl, hst⟩) (by simp) (by simp only [maxLen]; omega) (Nat.le_trans (Nat.mul_le_mul hlen hby) (by omega))
 refine .inl ⟨v', w', g', exec_append2 ho hc ha ht q1, (q2.same_bx (fun j => snoc_at _ _ j)).drop (fun s q => ?_), q3, q4⟩
 simp only [List.mem_filter, bne_iff_ne, ne_eq] at q
 exact ⟨q.1, fun e => by cases e; exact q.2 rfl⟩
end
end Go.Proofs.Ytmglacjcefajlaa
