/- The law ConstfoldProgram: its walk. -/
import Derived.Test.YtlpgapmbajblmaaPq2
import Derived.Test.YtlpgapmbajblmaaSm
namespace Go.Proofs.Ytlpgapmbajblmaa
open Go.RowKit

def PgC : Nat → List D → D → Prop := fun k a d => k = 31 ∧ ∃ p, PgOk p ∧ a = [dG p] ∧ d = dG (progT p)
/-- the environment with constfold.Program -/
noncomputable def EVp : Env := EV.by PgC
theorem EVpP : EVp.P = Try.prog := rfl
theorem EVp_ok : EVp.Ok := by_ok EV_ok fun k a d ⟨hk, p, ho, ha, hd⟩ => by
 subst hk ha hd
 exact ⟨dG_under 0 _, dG_strip _, prog_any p ho⟩
theorem dN_inj {t u : Tr} (h : dN t = dN u) : t = u := by
 have := toTr_of t
 rw [h, toTr_of u] at this
 exact (Option.some.inj this).symm
theorem map_inj {α : Type} {f : α → D} (hf : ∀ a b, f a = f b → a = b) : ∀ (p q : List α), p.map f = q.map f → p = q
 | [], [], _ => rfl
 | [], _ :: _, h => by cases h
 | _ :: _, [], h => by cases h
 | a :: r, b :: q, h => by
  simp only [zmc, List.cons.injEq] at h
  rw [hf a b h.1, map_inj hf r q h.2]
theorem sl_inj {n : Nat} {l m : List D} (h : sl n l = sl n m) : l = m := by
 simp only [sl, D.slice.injEq] at h; exact h.2.2
theorem node_of {t u : Tr} (h1 : t.kind = u.kind) (h2 : t.num = u.num) (h3 : t.name = u.name) (h4 : t.kids = u.kids) : t = u := by
 cases t; cases u; simp only [Tr.kind, Tr.num, Tr.name, Tr.kids] at h1 h2 h3 h4; subst h1 h2 h3 h4; rfl
theorem dV_inj {a b : Vd} (h : dV a = dV b) : a = b := by
 cases a; cases b; simp only [dV, D.agg.injEq, List.cons.injEq, D.str.injEq, D.int.injEq, true_and, and_true] at h; obtain ⟨rfl, rfl, rfl⟩ := h; rfl
theorem dP_inj {a b : Pr} (h : dP a = dP b) : a = b := by
 simp only [dP, D.agg.injEq, List.cons.injEq, D.str.injEq, D.int.injEq, true_and, and_true] at h
 obtain ⟨h1, h2, h3, h4, h5, h6⟩ := h
 cases a; cases b
 simp only at h1 h2 h3 h4 h5 h6
 have e1 := map_inj (fun _ _ => dV_inj) _ _ (sl_inj h2)
 have e2 := node_of h3 h4 h5 (map_inj (fun _ _ => dN_inj) _ _ (sl_inj h6))
 rw [h1, e1, e2]
theorem dG_inj {a b : Pg} (h : dG a = dG b) : a = b := by
 simp only [dG, D.agg.injEq, List.cons.injEq, D.str.injEq, D.int.injEq, true_and, and_true] at h
 obtain ⟨h1, h2, h3, h4, h5, h6⟩ := h
 cases a; cases b
 simp only at h1 h2 h3 h4 h5 h6
 have e1 := map_inj (fun _ _ => dV_inj) _ _ (sl_inj h1)
 have e3 := map_inj (fun _ _ => dP_inj) _ _ (sl_inj h2)
 have e2 := node_of h3 h4 h5 (map_inj (fun _ _ => dN_inj) _ _ (sl_inj h6))
 rw [e1, e2, e3]
theorem prog_fn (p : Pg) (ho : PgOk p) : fn EVp 31 [dG p] = some (dG (progT p)) := by
 refine by_fn (by simp only [plain, List.all_cons, List.all_nil, dG_pl, Bool.and_true]) (by simp only [zmc, zmn, dG_strip]) rfl rfl ⟨rfl, p, ho, rfl, rfl⟩ ?_
 rintro d' ⟨_, q, _, ha, rfl⟩
 simp only [List.cons.injEq, and_true] at ha
 rw [dG_inj ha]
theorem awake_p : fn EVp 11 [] = some (.bool true) := by_up awake_ok
theorem bigP_ok {p : Pg} (h : bigP p = false) : PgOk p ∧ p.vars.length ≤ 40 ∧ p.procs.length ≤ 70 ∧ p.main.size ≤ 400 ∧ (∀ f ∈ p.procs, f.params.length ≤ 10 ∧ f.body.size ≤ 400) := by
 simp only [bigP, zof, decide_eq_false_iff_not] at h
 obtain ⟨⟨⟨h1, h2⟩, h3⟩, h4⟩ := h
 have h5 := (bigB_no h3).1
 have h6 : ∀ f ∈ p.procs, f.params.length ≤ 10 ∧ f.body.size ≤ 400 := fun f hf => by
  have := List.any_eq_false.1 h4 f hf
  simp only [bigQ, Bool.not_eq_true, zof, decide_eq_false_iff_not] at this
  exact ⟨by omega, (bigB_no this.2).1⟩
 exact ⟨⟨by omega, by omega, by omega, fun f hf => ⟨by have := (h6 f hf).1; omega, by have := (h6 f hf).2; omega⟩⟩, by omega, by omega, h5, h6⟩
end Go.Proofs.Ytlpgapmbajblmaa
