import Derived.Test.YtlpgapmbajblmaaPq
/- Folding programs never increases size or depth, keeps validity, and is idempotent; numbers within bounds. -/
namespace Go.Proofs.Ytlpgapmbajblmaa
open Go.RowKit

mutual
/-- all numbers are at most the greatest -/
def hiB : Tr → Bool
 | .mk _ n _ c => decide (n ≤ 9223372036854775807) && hisB c
def hisB : List Tr → Bool
 | [] => true
 | t :: r => hiB t && hisB r
end
theorem hisB_all : ∀ c : List Tr, hisB c = c.all hiB
 | [] => rfl
 | t :: r => by simp only [hisB, List.all_cons, hisB_all r]
theorem hiB_num {t : Tr} (h : hiB t = true) : t.num ≤ 9223372036854775807 := by
 cases t with
 | mk k n s c => simp only [hiB, zat, decide_eq_true_eq] at h; exact h.1
theorem hiB_kid {t x : Tr} (h : hiB t = true) (hx : x ∈ t.kids) : hiB x = true := by
 cases t with
 | mk k n s c => simp only [hiB, zat, hisB_all] at h; exact List.all_eq_true.1 h.2 x hx
theorem hiB_of {k n : Int} {s : ByteArray} {c : List Tr} (h1 : n ≤ 9223372036854775807) (h2 : ∀ x ∈ c, hiB x = true) : hiB (.mk k n s c) = true := by
 simp only [hiB, zat, decide_eq_true_eq, hisB_all]
 exact ⟨h1, List.all_eq_true.2 h2⟩
theorem hi_of_R {w : World} {g : Gh} (t : Tr) : ∀ {cs : List Value}, R w g (dN t) cs → hiB t = true := by
 induction t using Tr.ind with
 | h k n s c ih =>
  intro cs h
  rw [dN_eq] at h
  obtain ⟨_, r1⟩ := R_agg_at h 1 (by simp)
  obtain ⟨_, r3⟩ := R_agg_at h 3 (by simp)
  obtain ⟨_, i1⟩ := R_int r1
  simp only [inr_i64, Tr.num] at i1
  have v3 : val w g (.slice .imm (if (c.map dN).isEmpty then 0 else 4) (c.map dN)) _ := val_of_R r3 rfl
  obtain ⟨A, cap, cs', _, _, _, _, _, _, hr, _, _⟩ := val_slice v3
  refine hiB_of i1.2 (fun x hx => ?_)
  obtain ⟨j, hj, rfl⟩ := List.getElem_of_mem hx
  have := hr j (by simpa using hj)
  rw [List.getElem_map] at this
  exact ih _ (List.getElem_mem hj) this
/-- all numbers of a program's bodies -/
def hiG (p : Pg) : Prop := hiB p.main = true ∧ ∀ f ∈ p.procs, hiB f.body = true
theorem hi_valG {w : World} {g : Gh} {p : Pg} {v : Value} (h : val w g (dG p) v) : hiG p := by
 obtain ⟨cs, h1, _⟩ := h.to1 (dG_good p)
 have h1' : R w g (.agg [sl 3 (p.vars.map dV), sl 6 (p.procs.map dP), .int .u8 p.main.kind, .int .i64 p.main.num, .str p.main.name, sl 4 (p.main.kids.map dN)]) cs := h1
 have hm : R w g (.agg [.int .u8 p.main.kind, .int .i64 p.main.num, .str p.main.name, sl 4 (p.main.kids.map dN)]) ((cs.drop 2).take 4) := R_agg_sub h1' 2 4
 refine ⟨hi_of_R p.main (by rw [dN_eq]; exact hm), fun f hf => ?_⟩
 obtain ⟨_, r1⟩ := R_agg_at h1' 1 (by simp)
 have v1 : val w g (.slice .imm (if (p.procs.map dP).isEmpty then 0 else 6) (p.procs.map dP)) _ := val_of_R r1 rfl
 obtain ⟨A, cap, cs', _, _, _, _, _, _, hr, _, _⟩ := val_slice v1
 obtain ⟨j, hj, rfl⟩ := List.getElem_of_mem hf
 have h2 := hr j (by simpa using hj)
 rw [List.getElem_map] at h2
 have h3 : R w g (.agg [.str (p.procs[j]).name, sl 3 ((p.procs[j]).params.map dV), .int .u8 (p.procs[j]).body.kind, .int .i64 (p.procs[j]).body.num, .str (p.procs[j]).body.name, sl 4 ((p.procs[j]).body.kids.map dN)]) (cs' j) := h2
 have h4 : R w g (.agg [.int .u8 (p.procs[j]).body.kind, .int .i64 (p.procs[j]).body.num, .str (p.procs[j]).body.name, sl 4 ((p.procs[j]).body.kids.map dN)]) (((cs' j).drop 2).take 4) := R_agg_sub h3 2 4
 exact hi_of_R _ (by rw [dN_eq]; exact h4)

theorem wrap_hi (n : Int) : IntKind.i64.wrap n ≤ 9223372036854775807 := (wrap_inr .i64 n).2
theorem b01_hi (b : Bool) : b01 b ≤ 9223372036854775807 := by cases b <;> decide
theorem ite2 {c : Prop} [Decidable c] {p q : Int × Int} {A : Int} (h1 : p.1 ≤ A) (h2 : q.1 ≤ A) : (if c then p else q).1 ≤ A := by split <;> assumption
theorem tmod_hi (x y : Int) (h : x ≤ 9223372036854775807) : x.tmod y ≤ 9223372036854775807 := by
 rcases Int.le_total 0 x with ha | ha
 ·have := Int.natAbs_tmod x y
  have h3 : x.natAbs % y.natAbs ≤ x.natAbs := Nat.mod_le _ _
  omega
 ·have h2 : x.tmod y ≤ 0 := by
   have := Int.tmod_nonneg y (a := -x) (by omega)
   rw [Int.neg_tmod] at this; omega
  omega
theorem apD_hi (k x y : Int) (h : x ≤ 9223372036854775807) : (apD k x y).1 ≤ 9223372036854775807 := by
 unfold apD
 repeat' apply ite2
 all_goals first | exact wrap_hi _ | exact tmod_hi _ _ h | exact b01_hi _ | decide
theorem unD_hi (k x : Int) : (unD k x).1 ≤ 9223372036854775807 := by
 unfold unD
 repeat' apply ite2
 all_goals first | exact wrap_hi _ | exact b01_hi _ | decide
theorem foldT_hi (t : Tr) : exprB t = true → hiB t = true → (foldT t).2.1 ≤ 9223372036854775807 := by
 induction t using Tr.ind with
 | h k n s c ih =>
  intro h hh
  have hc := expr_cases h
  obtain ⟨t, ht⟩ : ∃ t, t = Tr.mk k n s c := ⟨_, rfl⟩
  rw [← ht] at hc hh ⊢
  have ih' : ∀ x ∈ t.kids, exprB x = true → hiB x = true → (foldT x).2.1 ≤ 9223372036854775807 := by rw [ht]; exact ih
  rw [foldT_eq]
  by_cases hv : (valueD t.kind t.num (t.kids.map foldT)).2 = true
  ·rw [if_pos hv]
   show (valueD t.kind t.num (t.kids.map foldT)).1 ≤ 9223372036854775807
   by_cases h0 : (t.kids.map foldT).all (fun x => x.2.2) = true
   ·rcases hc with ⟨h1, h2, h3⟩ | ⟨h1, h2⟩ | ⟨h1, a, h2, h3⟩ | ⟨h1, a, h2, h3⟩ | ⟨h1, a, b, h2, h3, h4⟩
    ·rw [vD_1 h0 h1]; exact hiB_num hh
    ·rw [vD_v (by omega)]; decide
    ·rw [vD_v (by omega)]; decide
    ·rw [vD_u h0 h1 (r := []) (x := foldT a) (by rw [h2]; rfl)]; exact unD_hi _ _
    ·rw [vD_b h0 (by omega) (r := []) (x := foldT a) (y := foldT b) (by rw [h2]; rfl)]; exact apD_hi _ _ _ (ih' a (by rw [h2]; simp) h3 (hiB_kid hh (by rw [h2]; simp)))
   ·rw [vD_no (by simpa using h0)]; decide
  ·rw [if_neg hv]; exact (by decide : (0 : Int) ≤ 9223372036854775807)
theorem size_pos' (t : Tr) : 1 ≤ t.size ∧ 1 ≤ t.depth := by cases t; simp only [Tr.size, Tr.depth]; omega
theorem one_kid {t a : Tr} (h : t.kids = [a]) : t.size = a.size + 1 ∧ t.depth = a.depth + 1 := by
 cases t with
 | mk k n s c =>
  simp only [Tr.kids] at h
  subst h
  exact ⟨by simp only [Tr.size, Tr.sizes, Nat.add_zero], by simp [Tr.depth, Tr.depths]⟩
theorem two_kids {t a b : Tr} (h : t.kids = [a, b]) : t.size = a.size + b.size + 1 ∧ a.depth + 1 ≤ t.depth := by
 cases t with
 | mk k n s c =>
  simp only [Tr.kids] at h
  subst h
  refine ⟨by simp only [Tr.size, Tr.sizes]; omega, ?_⟩
  have : a.depth ≤ Tr.depths [a, b] := by simp only [Tr.depths]; exact Nat.le_max_left _ _
  simp only [Tr.depth]; exact Nat.succ_le_succ this
/-- what a constant's literal needs, the constant has -/
theorem min_size (t : Tr) : exprB t = true → hiB t = true → (foldT t).2.2 = true → (¬ 0 ≤ (foldT t).2.1 → 2 ≤ t.size ∧ 2 ≤ t.depth) ∧ ((foldT t).2.1 = -9223372036854775808 → 3 ≤ t.size) := by
 induction t using Tr.ind with
 | h k n s c ih =>
  intro h hh hq
  have hc := expr_cases h
  obtain ⟨t, ht⟩ : ∃ t, t = Tr.mk k n s c := ⟨_, rfl⟩
  have ih' : ∀ x ∈ t.kids, exprB x = true → hiB x = true → (foldT x).2.2 = true → (¬ 0 ≤ (foldT x).2.1 → 2 ≤ x.size ∧ 2 ≤ x.depth) ∧ ((foldT x).2.1 = -9223372036854775808 → 3 ≤ x.size) := by rw [ht]; exact ih
  rw [← ht] at hc hh hq ⊢
  rw [foldT_eq] at hq ⊢
  by_cases hv : (valueD t.kind t.num (t.kids.map foldT)).2 = true
  ·rw [if_pos hv]
   show (¬ 0 ≤ (valueD t.kind t.num (t.kids.map foldT)).1 → _) ∧ ((valueD t.kind t.num (t.kids.map foldT)).1 = _ → _)
   by_cases h0 : (t.kids.map foldT).all (fun x => x.2.2) = true
   ·rcases hc with ⟨h1, h2, h3⟩ | ⟨h1, h2⟩ | ⟨h1, a, h2, h3⟩ | ⟨h1, a, h2, h3⟩ | ⟨h1, a, b, h2, h3, h4⟩
    ·rw [vD_1 h0 h1]; exact ⟨fun q => absurd h3 q, fun q => by have q' : t.num = -9223372036854775808 := q; omega⟩
    ·rw [vD_v (by omega)] at hv; cases hv
    ·rw [vD_v (by omega)] at hv; cases hv
    ·have hk := one_kid h2
     have ha := size_pos' a
     have ham : a ∈ t.kids := by rw [h2]; simp
     have ha2 : (foldT a).2.2 = true := List.all_eq_true.1 h0 (foldT a) (List.mem_map.2 ⟨a, ham, rfl⟩)
     have iha := (ih' a ham h3 (hiB_kid hh ham) ha2).2
     have hlo := foldT_lo a h3
     have hhi := foldT_hi a h3 (hiB_kid hh ham)
     rw [vD_u h0 h1 (r := []) (x := foldT a) (by rw [h2]; rfl)]
     refine ⟨fun _ => ⟨by omega, by omega⟩, fun q => ?_⟩
     have q' : (unD t.kind (foldT a).2.1).1 = -9223372036854775808 := q
     unfold unD at q'
     rcases h1 with h1 | h1
     ·rw [if_pos h1] at q'
      have := iha (wrap_min hlo hhi q'); omega
     ·rw [if_neg (by omega), if_pos h1] at q'
      have : ∀ b, b01 b ≠ -9223372036854775808 := fun b => by cases b <;> decide
      exact absurd q' (this _)
    ·have hk := two_kids h2
     have ha := size_pos' a
     have hb := size_pos' b
     exact ⟨fun _ => ⟨by omega, by omega⟩, fun _ => by omega⟩
   ·rw [vD_no (by simpa using h0)] at hv; cases hv
  ·rw [if_neg hv] at hq; cases hq
theorem fold_small (t : Tr) : exprB t = true → hiB t = true → (foldT t).1.size ≤ t.size ∧ (foldT t).1.depth ≤ t.depth := by
 induction t using Tr.ind with
 | h k n s c ih =>
  intro h hh
  cases hq : (foldT (.mk k n s c)).2.2 with
  | true =>
   rw [fold_val _ hq]
   have h1 := min_size _ h hh hq
   have h2 := lit_size (foldT (.mk k n s c)).2.1
   have h3 := size_pos' (.mk k n s c)
   by_cases q0 : 0 ≤ (foldT (.mk k n s c)).2.1
   ·have := h2.1 q0; omega
   ·have h4 := h1.1 q0
    by_cases q1 : (foldT (.mk k n s c)).2.1 = -9223372036854775808
    ·have := h2.2.2 q1; have := h1.2 q1; omega
    ·have := h2.2.1 q0 q1; omega
  | false =>
   rw [foldT_eq] at hq ⊢
   split
   ·rename_i h7; rw [if_pos h7] at hq; cases hq
   ·have hk : ∀ x ∈ c, (foldT x).1.size ≤ x.size ∧ (foldT x).1.depth ≤ x.depth := fun x hx => ih x hx (expr_kids h x hx) (hiB_kid hh hx)
    have s1 := sizes_map_le (f := fun x => (foldT x).1) (c := c) (fun x hx => (hk x hx).1)
    have s2 := depths_map_le (f := fun x => (foldT x).1) (c := c) (fun x hx => (hk x hx).2)
    simp only [Tr.kids, Tr.size, Tr.depth, List.map_map]
    have e : ((fun x : Fo => x.1) ∘ foldT) = (fun x => (foldT x).1) := rfl
    rw [e]; omega
theorem stmt_small (t : Tr) : catK t → hiB t = true → (stmtT t).size ≤ t.size ∧ (stmtT t).depth ≤ t.depth := by
 induction t using Tr.ind with
 | h k n s c ih =>
  intro h hh
  rw [stmtT_eq]
  split
  ·rename_i hk; exact fold_small _ (catK_expr h hk.2) hh
  ·have hk : ∀ x ∈ c, (stmtT x).size ≤ x.size ∧ (stmtT x).depth ≤ x.depth := fun x hx => ih x hx (catK_kid h hx) (hiB_kid hh hx)
   have s1 := sizes_map_le (f := stmtT) (c := c) (fun x hx => (hk x hx).1)
   have s2 := depths_map_le (f := stmtT) (c := c) (fun x hx => (hk x hx).2)
   simp only [Tr.kids, Tr.size, Tr.depth]
   omega
/-- a folded program is valid -/
theorem progT_valid {p : Pg} (h : validB p = true) (hh : hiG p) : validB (progT p) = true := by
 have hm := valid_main h
 have hp := fun f hf => valid_proc h (f := f) hf
 unfold progT
 rw [if_pos h]
 simp only [validB, bodyB, mapG, zat, zlm, List.all_map, decide_eq_true_eq] at h ⊢
 obtain ⟨⟨⟨⟨h1, h2⟩, h3⟩, h4⟩, h5⟩ := h
 refine ⟨⟨⟨⟨h1, h2⟩, h3⟩, ?_⟩, ?_, ?_⟩
 ·rw [List.all_eq_true] at h4 ⊢
  intro f hf
  have h6 := h4 f hf
  have h7 := stmt_small f.body (hp f hf) (hh.2 f hf)
  simp only [Function.comp_apply, procB, bodyB, zat, decide_eq_true_eq] at h6 ⊢
  refine ⟨h6.1, ⟨by omega, by omega⟩, ?_⟩
  have := cat_stmtT f.body 2 (by rw [cat2]; exact h6.2.2)
  rwa [cat2] at this
 ·have h7 := stmt_small p.main hm hh.1
  have h8 : (stmtT p.main).depth ≤ 80 ∧ (stmtT p.main).size ≤ 2000 := ⟨by omega, by omega⟩
  exact decide_eq_true h8
 ·have := cat_stmtT p.main 2 (by rw [cat2]; exact h5.2)
  rwa [cat2] at this
end Go.Proofs.Ytlpgapmbajblmaa
