/- Small general lemmas over data. -/
import Derived.Test.YtkngdmilgfgclaaVa5
namespace Go.Proofs.Ytkngdmilgfgclaa
open Go.RowKit

theorem dG_agg (p : Pg) : D.agg [.slice .imm (if (p.vars.map dV).isEmpty = true then 0 else 3) (p.vars.map dV), .slice .imm (if (p.procs.map dP).isEmpty = true then 0 else 6) (p.procs.map dP), .int .u8 p.main.kind, .int .i64 p.main.num, .str p.main.name, .slice .imm (if (p.main.kids.map dN).isEmpty = true then 0 else 4) (p.main.kids.map dN)] = dG p := rfl
theorem dG_cells (p : Pg) : (dG p).cells = [.slice .imm (if (p.vars.map dV).isEmpty = true then 0 else 3) (p.vars.map dV), .slice .imm (if (p.procs.map dP).isEmpty = true then 0 else 6) (p.procs.map dP), .int .u8 p.main.kind, .int .i64 p.main.num, .str p.main.name, .slice .imm (if (p.main.kids.map dN).isEmpty = true then 0 else 4) (p.main.kids.map dN)] := rfl
theorem dG_isAgg (p : Pg) : (dG p).isAgg = true := rfl
theorem dG_good (p : Pg) : (dG p).good = true := rfl
theorem dV_cells (v : Vd) : (dV v).cells = [.str v.name, .int .u8 v.kind, .int .i64 v.len] := rfl
theorem dV_isAgg (v : Vd) : (dV v).isAgg = true := rfl
theorem dV_good (v : Vd) : (dV v).good = true := rfl
theorem dI_u (m : Nat) (i : Int) : (dI i).under m = true := rfl
theorem dI_s (i : Int) : (dI i).strip = dI i := rfl
theorem sl_pl {α : Type} {f : α → D} (h : ∀ m x, (f x).under m = true) (n : Nat) (l : List α) : ((sl n (l.map f)).under 0 && (sl n (l.map f)).good) = true := by
  rw [sl_under (map_under (h 0) l)]; rfl
theorem str_pl (s : ByteArray) : ((D.str s).under 0 && (D.str s).good) = true := rfl
theorem int_pl (k : IntKind) (n : Int) : ((D.int k n).under 0 && (D.int k n).good) = true := rfl
theorem dN_pl (t : Tr) : ((dN t).under 0 && (dN t).good) = true := by rw [dN_under, dN_good]; rfl
theorem dG_pl (t : Pg) : ((dG t).under 0 && (dG t).good) = true := by rw [dG_under]; rfl
theorem sl_ne {α : Type} {f : α → D} {l : List α} (h : l.length ≠ 0) : ((l.map f) = []) = False := by
  cases l with
  | nil => exact absurd rfl h
  | cons a r => simp
theorem sl_or (n : Nat) (l : List D) : ((if l.isEmpty = true then 0 else n) = n ∨ l = []) = True := by cases l <;> simp
theorem sl_cut {n : Nat} {l : List D} : (if l.isEmpty = true then 0 else n) = n ∨ l = [] := by
  cases l with
  | nil => exact .inr rfl
  | cons a r => exact .inl rfl
theorem strips_id {α : Type} {f : α → D} (h : ∀ x, (f x).strip = f x) (l : List α) : D.strips (l.map f) = l.map f := by
  rw [D.strips_map, List.map_map]; exact List.map_congr_left fun x _ => h x
theorem unders_id {α : Type} {f : α → D} (h : ∀ m x, (f x).under m = true) (m : Nat) (l : List α) : D.unders m (l.map f) = true := by
  rw [D.unders_all, List.all_eq_true]; intro x hx; obtain ⟨y, _, rfl⟩ := List.mem_map.1 hx; exact h m y
theorem tk_all {α : Type} (l : List α) : List.take l.length l = l := List.take_length
theorem dI_def (i : Int) : D.int .i64 i = dI i := rfl
theorem sl_own {α : Type} {f : α → D} {sz : Nat} {l : List α} (h : ∀ x, (f x).strip = f x) (_hne : l ≠ []) (o : Own) (ho : o.st = .imm) : (D.slice o sz (l.map f)).strip = sl sz (l.map f) := by
  simp only [D.strip, strips_id h, ho, sl]
theorem dV_agg (v : Vd) : D.agg [.str v.name, .int .u8 v.kind, .int .i64 v.len] = dV v := rfl
theorem fn_strip {E : Env} {k : Nat} {args args' : List D} (h : plain args = true) (h' : plain args' = true) (e : args.map D.strip = args'.map D.strip) : fn E k args = fn E k args' := by
  unfold fn pureWith
  unfold plain at h h'
  rw [if_pos h, if_pos h', e]
theorem Acc.appE {P : Program} {t e : TypeId} {i : TypeInfo} {sz : Nat} {o : Own} {n : Nat} {L : List D} {lv : List Nat} (h : Acc e sz o n L lv) (hu : P.underlying t = some (.slice e)) (hi : P.info? e = some i) (hs : i.size = sz) (hp : 0 < sz) (hb : i.bytes ≤ 4096) (hz : (i.zero.map fun z => z.cells.size) = some sz) (nx : Nat) (l2 : List D)
    (hl : L.length + l2.length ≤ 16777216) : ∃ o' n' nx' lv', Acc e sz o' n' (L ++ l2) lv' ∧ ∀ fr bx, aappend P ⟨fr, bx, nx, lv⟩ t (.slice o n L) (.slice .imm (if l2.isEmpty = true then 0 else sz) l2) = some (.slice o' n' (L ++ l2), ⟨fr, bx, nx', lv'⟩) := by
  cases l2 with
  | nil => exact ⟨o, n, nx, lv, by rw [List.append_nil]; exact h, fun fr bx => by rw [List.append_nil]; exact Acc.app0 hu hi⟩
  | cons a r =>
    refine ⟨.own nx e, sz, nx + 1, nx :: o.cut lv, .own (List.mem_cons_self), fun fr bx => ?_⟩
    exact Acc.app (σ := ⟨fr, bx, nx, lv⟩) (o2 := .imm) h hu hi hs hp hb hz hl (by simp)
structure AccB (e : TypeId) (sz : Nat) (o : Own) (n : Nat) (L : List D) (nx : Nat) (lv : List Nat) : Prop where
  a : Acc e sz o n L lv
  b : ∀ s e', o = .own s e' → s < nx
structure Keep (nx : Nat) (lv : List Nat) (nx' : Nat) (lv' : List Nat) : Prop where
  l : nx ≤ nx'
  k : ∀ s, s < nx → s ∈ lv → s ∈ lv'
theorem AccB.nil (e : TypeId) (sz nx : Nat) (lv : List Nat) : AccB e sz .nil 0 [] nx lv := ⟨.nil _ _ _, fun s e' h => by cases h⟩
theorem AccB.own {e : TypeId} {sz st nx : Nat} {L : List D} {lv : List Nat} (h : st ∈ lv) (h' : st < nx) : AccB e sz (.own st e) sz L nx lv := ⟨.own h, fun s e' q => by cases q; exact h'⟩
theorem AccB.keep {e : TypeId} {sz : Nat} {o : Own} {n : Nat} {L : List D} {nx nx' : Nat} {lv lv' : List Nat} (h : AccB e sz o n L nx lv) (k : Keep nx lv nx' lv') : AccB e sz o n L nx' lv' := by
  refine ⟨?_, fun s e' q => Nat.lt_of_lt_of_le (h.b s e' q) k.l⟩
  rcases h.a with q | ⟨st, q1, q2, q3⟩
  · exact .inl q
  · exact .inr ⟨st, q1, k.k st (h.b st e q1) q2, q3⟩
theorem AccB.appE {P : Program} {t e : TypeId} {i : TypeInfo} {sz : Nat} {o : Own} {n : Nat} {L : List D} {nx : Nat} {lv : List Nat} (h : AccB e sz o n L nx lv) (hu : P.underlying t = some (.slice e)) (hi : P.info? e = some i) (hs : i.size = sz) (hp : 0 < sz) (hb : i.bytes ≤ 4096) (hz : (i.zero.map fun z => z.cells.size) = some sz) (l2 : List D)
    (hl : L.length + l2.length ≤ 16777216) : ∃ o' n' nx' lv', AccB e sz o' n' (L ++ l2) nx' lv' ∧ ∀ fr bx, aappend P ⟨fr, bx, nx, lv⟩ t (.slice o n L) (.slice .imm (if l2.isEmpty = true then 0 else sz) l2) = some (.slice o' n' (L ++ l2), ⟨fr, bx, nx', lv'⟩) := by
  cases l2 with
  | nil => exact ⟨o, n, nx, lv, by rw [List.append_nil]; exact h, fun fr bx => by rw [List.append_nil]; exact Acc.app0 hu hi⟩
  | cons a r =>
    refine ⟨.own nx e, sz, nx + 1, nx :: o.cut lv, .own (List.mem_cons_self) (by omega), fun fr bx => ?_⟩
    exact Acc.app (σ := ⟨fr, bx, nx, lv⟩) (o2 := .imm) h.a hu hi hs hp hb hz hl (by simp)
theorem AccB.app1 {P : Program} {t e : TypeId} {i : TypeInfo} {sz : Nat} {o : Own} {n : Nat} {L : List D} {nx : Nat} {lv : List Nat} (h : AccB e sz o n L nx lv) (hu : P.underlying t = some (.slice e)) (hi : P.info? e = some i) (hs : i.size = sz) (hp : 0 < sz) (hb : i.bytes ≤ 4096) (hz : (i.zero.map fun z => z.cells.size) = some sz) (x : D)
    (hl : L.length + 1 ≤ 16777216) : ∃ lv', AccB e sz (.own (nx + 1) e) sz (L ++ [x]) (nx + 1 + 1) lv' ∧ ∀ fr bx, aappend P ⟨fr, bx, nx + 1, nx :: lv⟩ t (.slice o n L) (.slice (.own nx e) sz [x]) = some (.slice (.own (nx + 1) e) sz (L ++ [x]), ⟨fr, bx, nx + 1 + 1, lv'⟩) :=
  ⟨(nx + 1) :: o.cut (nx :: lv), .own List.mem_cons_self (by omega), fun fr bx => Acc.app (σ := ⟨fr, bx, nx + 1, nx :: lv⟩) (o2 := .own nx e) (l2 := [x]) (h.a.more nx) hu hi hs hp hb hz hl (by simp)⟩
theorem copy_app {P : Program} {t e : TypeId} {i : TypeInfo} {sz : Nat} (nx : Nat) (lv : List Nat) (hu : P.underlying t = some (.slice e)) (hi : P.info? e = some i) (hs : i.size = sz) (hp : 0 < sz) (hb : i.bytes ≤ 4096) (hz : (i.zero.map fun z => z.cells.size) = some sz) (l : List D) (x : D) (hl : l.length + 1 ≤ 16777216) :
    ∃ o1 n1 nx1 lv1 o2 nx2 lv2, (∀ fr bx, aappend P ⟨fr, bx, nx + 1, nx :: lv⟩ t (.slice (.own nx e) sz []) (.slice .imm (if l.isEmpty = true then 0 else sz) l) = some (.slice o1 n1 l, ⟨fr, bx, nx1, lv1⟩)) ∧
      (∀ fr bx, aappend P ⟨fr, bx, nx1 + 1, nx1 :: lv1⟩ t (.slice o1 n1 l) (.slice (.own nx1 e) sz [x]) = some (.slice o2 sz (l ++ [x]), ⟨fr, bx, nx2, lv2⟩)) ∧ Keep nx lv nx2 lv2 ∧ o2.st = .imm := by
  have h0 : Acc e sz (.own nx e) sz [] (nx :: lv) := .own List.mem_cons_self
  cases l with
  | nil =>
    refine ⟨.own nx e, sz, nx + 1, nx :: lv, .own (nx + 2) e, nx + 3, (nx + 2) :: Own.cut (.own nx e) ((nx + 1) :: nx :: lv), fun fr bx => Acc.app0 hu hi, fun fr bx => ?_, ⟨by omega, fun s h1 h2 => ?_⟩, rfl⟩
    · exact Acc.app (σ := ⟨fr, bx, nx + 1 + 1, (nx + 1) :: nx :: lv⟩) (o2 := .own (nx + 1) e) (h0.more (nx + 1)) hu hi hs hp hb hz hl (by simp)
    · simp only [Own.cut, List.mem_cons, List.mem_filter, bne_iff_ne, ne_eq]; exact .inr ⟨.inr (.inr h2), by omega⟩
  | cons a r =>
    refine ⟨.own (nx + 1) e, sz, nx + 2, (nx + 1) :: Own.cut (.own nx e) (nx :: lv), .own (nx + 3) e, nx + 4, (nx + 3) :: Own.cut (.own (nx + 1) e) ((nx + 2) :: (nx + 1) :: Own.cut (.own nx e) (nx :: lv)), fun fr bx => ?_, fun fr bx => ?_, ⟨by omega, fun s h1 h2 => ?_⟩, rfl⟩
    · exact Acc.app (σ := ⟨fr, bx, nx + 1, nx :: lv⟩) (o2 := .imm) h0 hu hi hs hp hb hz (by simp at hl ⊢; omega) (by simp)
    · exact Acc.app (σ := ⟨fr, bx, nx + 2 + 1, (nx + 2) :: (nx + 1) :: Own.cut (.own nx e) (nx :: lv)⟩) (o2 := .own (nx + 2) e) (.own (by simp)) hu hi hs hp hb hz hl (by simp)
    · simp only [Own.cut, List.mem_cons, List.mem_filter, bne_iff_ne, ne_eq]; exact .inr ⟨.inr (.inr ⟨.inr h2, by omega⟩), by omega⟩
end Go.Proofs.Ytkngdmilgfgclaa
