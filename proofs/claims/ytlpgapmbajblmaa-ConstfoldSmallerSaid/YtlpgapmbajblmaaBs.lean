/- Small general lemmas over data. -/
import Derived.Test.YtlpgapmbajblmaaVa5
import Derived.Test.YtlpgapmbajblmaaEx
namespace Go.Proofs.Ytlpgapmbajblmaa
open Go.RowKit

theorem dG_agg (p : Pg) : D.agg [.slice .imm (if (p.vars.map dV).isEmpty = true then 0 else 3) (p.vars.map dV), .slice .imm (if (p.procs.map dP).isEmpty = true then 0 else 6) (p.procs.map dP), .int .u8 p.main.kind, .int .i64 p.main.num, .str p.main.name, .slice .imm (if (p.main.kids.map dN).isEmpty = true then 0 else 4) (p.main.kids.map dN)] = dG p := rfl
theorem dG_cells (p : Pg) : (dG p).cells = [.slice .imm (if (p.vars.map dV).isEmpty = true then 0 else 3) (p.vars.map dV), .slice .imm (if (p.procs.map dP).isEmpty = true then 0 else 6) (p.procs.map dP), .int .u8 p.main.kind, .int .i64 p.main.num, .str p.main.name, .slice .imm (if (p.main.kids.map dN).isEmpty = true then 0 else 4) (p.main.kids.map dN)] := rfl
theorem dG_good (p : Pg) : (dG p).good = true := rfl
theorem sl_pl {α : Type} {f : α → D} (h : ∀ m x, (f x).under m = true) (n : Nat) (l : List α) : ((sl n (l.map f)).under 0 && (sl n (l.map f)).good) = true := by
 rw [sl_under (map_under (h 0) l)]; rfl
theorem dN_pl (t : Tr) : ((dN t).under 0 && (dN t).good) = true := by rw [dN_under, dN_good]; rfl
theorem dG_pl (t : Pg) : ((dG t).under 0 && (dG t).good) = true := by rw [dG_under]; rfl
theorem sl_ne {α : Type} {f : α → D} {l : List α} (h : l.length ≠ 0) : ((l.map f) = []) = False := by
 cases l with
 | nil => exact absurd rfl h
 | cons a r => simp
theorem strips_id {α : Type} {f : α → D} (h : ∀ x, (f x).strip = f x) (l : List α) : D.strips (l.map f) = l.map f := by
 rw [D.strips_map, List.map_map]; exact List.map_congr_left fun x _ => h x
theorem unders_id {α : Type} {f : α → D} (h : ∀ m x, (f x).under m = true) (m : Nat) (l : List α) : D.unders m (l.map f) = true := by
 rw [D.unders_all, List.all_eq_true]; intro x hx; obtain ⟨y, _, rfl⟩ := List.mem_map.1 hx; exact h m y
structure AccB (e : TypeId) (sz : Nat) (o : Own) (n : Nat) (L : List D) (nx : Nat) (lv : List Nat) : Prop where
 a : Acc e sz o n L lv
 b : ∀ s e', o = .own s e' → s < nx
structure Keep (nx : Nat) (lv : List Nat) (nx' : Nat) (lv' : List Nat) : Prop where
 l : nx ≤ nx'
 k : ∀ s, s < nx → s ∈ lv → s ∈ lv'
theorem AccB.nil (e : TypeId) (sz nx : Nat) (lv : List Nat) : AccB e sz .nil 0 [] nx lv := ⟨.nil _ _ _, fun s e' h => by cases h⟩
theorem AccB.own {e : TypeId} {sz st nx : Nat} {L : List D} {lv : List Nat} (h : st ∈ lv) (h' : st < nx) : AccB e sz (.own st e) sz L nx lv := ⟨.own h, fun s e' q => by cases q; exact h'⟩
theorem AccB.keep {e : TypeId} {sz : Nat} {o : Own} {n : Nat} {L : List D} {nx nx' : Nat} {lv lv' : List Nat} (h : AccB e sz o n L nx lv) (k : Keep nx lv nx' lv') : AccB e sz o n L nx' lv' := by
 refine ⟨?_, fun s e' q => Nat.lt_of_lt_of_le (h.b s e' q) k.l⟩
 rcases h.a with q | ⟨st, q1, q2, q3⟩
 ·exact .inl q
 ·exact .inr ⟨st, q1, k.k st (h.b st e q1) q2, q3⟩
end Go.Proofs.Ytlpgapmbajblmaa
