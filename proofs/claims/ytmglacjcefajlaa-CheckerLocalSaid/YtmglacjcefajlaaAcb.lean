/- Append accumulators beside other appends; lists that are known but for their stamps. -/
import Derived.Test.YtmglacjcefajlaaSc2
namespace Go.Proofs.Ytmglacjcefajlaa
open Go.RowKit

theorem Acc.appE {P : Program} {t e : TypeId} {i : TypeInfo} {sz : Nat} {o : Own} {n : Nat} {L : List D} {lv : List Nat} (h : Acc e sz o n L lv) (hu : P.underlying t = some (.slice e)) (hi : P.info? e = some i) (hs : i.size = sz) (hp : 0 < sz) (hb : i.bytes ≤ 4096) (hz : (i.zero.map fun z => z.cells.size) = some sz) (nx : Nat) (l2 : List D)
  (hl : L.length + l2.length ≤ 16777216) : ∃ o' n' nx' lv', Acc e sz o' n' (L ++ l2) lv' ∧ ∀ fr bx, aappend P ⟨fr, bx, nx, lv⟩ t (.slice o n L) (.slice .imm (if l2.isEmpty = true then 0 else sz) l2) = some (.slice o' n' (L ++ l2), ⟨fr, bx, nx', lv'⟩) := by
 cases l2 with
 | nil => exact ⟨o, n, nx, lv, by rw [List.append_nil]; exact h, fun fr bx => by rw [List.append_nil]; exact Acc.app0 hu hi⟩
 | cons a r =>
  refine ⟨.own nx e, sz, nx + 1, nx :: o.cut lv, .own (List.mem_cons_self), fun fr bx => ?_⟩
  exact Acc.app (σ := ⟨fr, bx, nx, lv⟩) (o2 := .imm) h hu hi hs hp hb hz hl (by simp)
/-- an accumulator whose stamp is older than the next one -/
structure AccB (e : TypeId) (sz : Nat) (o : Own) (n : Nat) (L : List D) (nx : Nat) (lv : List Nat) : Prop where
 a : Acc e sz o n L lv
 b : ∀ s e', o = .own s e' → s < nx
structure Keep (nx : Nat) (lv : List Nat) (nx' : Nat) (lv' : List Nat) : Prop where
 l : nx ≤ nx'
 k : ∀ s, s < nx → s ∈ lv → s ∈ lv'
theorem AccB.nil (e : TypeId) (sz nx : Nat) (lv : List Nat) : AccB e sz .nil 0 [] nx lv := ⟨.nil _ _ _, fun s e' h => by cases h⟩
theorem AccB.own {e : TypeId} {sz st nx : Nat} {L : List D} {lv : List Nat} (h : st ∈ lv) (h' : st < nx) : AccB e sz (.own st e) sz L nx lv := ⟨.own h, fun s e' q => by cases q; exact h'⟩
theorem AccB.keep {e : TypeId} {sz : Nat} {o : Own} {n : Nat} {L : List D} {nx nx' : Nat} {lv lv' : List Nat} (h : AccB e sz o n L nx lv) (k : Keep nx lv nx' lv') : AccB e sz o n L nx' lv' := by
 refine ⟨?_, fun s e' q => Nat.lt_of_lt_of_le (h.b s e' q) k.l⟩
 rcases h.a with q | ⟨st, q1, q2, q3⟩
 ·exact .inl q
 ·exact .inr ⟨st, q1, k.k st (h.b st e q1) q2, q3⟩
theorem AccB.appE {P : Program} {t e : TypeId} {i : TypeInfo} {sz : Nat} {o : Own} {n : Nat} {L : List D} {nx : Nat} {lv : List Nat} (h : AccB e sz o n L nx lv) (hu : P.underlying t = some (.slice e)) (hi : P.info? e = some i) (hs : i.size = sz) (hp : 0 < sz) (hb : i.bytes ≤ 4096) (hz : (i.zero.map fun z => z.cells.size) = some sz) (l2 : List D)
  (hl : L.length + l2.length ≤ 16777216) : ∃ o' n' nx' lv', AccB e sz o' n' (L ++ l2) nx' lv' ∧ ∀ fr bx, aappend P ⟨fr, bx, nx, lv⟩ t (.slice o n L) (.slice .imm (if l2.isEmpty = true then 0 else sz) l2) = some (.slice o' n' (L ++ l2), ⟨fr, bx, nx', lv'⟩) := by
 cases l2 with
 | nil => exact ⟨o, n, nx, lv, by rw [List.append_nil]; exact h, fun fr bx => by rw [List.append_nil]; exact Acc.app0 hu hi⟩
 | cons a r =>
  refine ⟨.own nx e, sz, nx + 1, nx :: o.cut lv, .own (List.mem_cons_self) (by omega), fun fr bx => ?_⟩
  exact Acc.app (σ := ⟨fr, bx, nx, lv⟩) (o2 := .imm) h.a hu hi hs hp hb hz hl (by simp)
theorem AccB.app1 {P : Program} {t e : TypeId} {i : TypeInfo} {sz : Nat} {o : Own} {n : Nat} {L : List D} {nx : Nat} {lv : List Nat} (h : AccB e sz o n L nx lv) (hu : P.underlying t = some (.slice e)) (hi : P.info? e = some i) (hs : i.size = sz) (hp : 0 < sz) (hb : i.bytes ≤ 4096) (hz : (i.zero.map fun z => z.cells.size) = some sz) (x : D)
  (hl : L.length + 1 ≤ 16777216) : ∃ lv', AccB e sz (.own (nx + 1) e) sz (L ++ [x]) (nx + 1 + 1) lv' ∧ ∀ fr bx, aappend P ⟨fr, bx, nx + 1, nx :: lv⟩ t (.slice o n L) (.slice (.own nx e) sz [x]) = some (.slice (.own (nx + 1) e) sz (L ++ [x]), ⟨fr, bx, nx + 1 + 1, lv'⟩) :=
 ⟨(nx + 1) :: o.cut (nx :: lv), .own List.mem_cons_self (by omega), fun fr bx => Acc.app (σ := ⟨fr, bx, nx + 1, nx :: lv⟩) (o2 := .own nx e) (l2 := [x]) (h.a.more nx) hu hi hs hp hb hz hl (by simp)⟩
/-- a copy of a slice with one more -/
theorem copy_app {P : Program} {t e : TypeId} {i : TypeInfo} {sz : Nat} (nx : Nat) (lv : List Nat) (hu : P.underlying t = some (.slice e)) (hi : P.info? e = some i) (hs : i.size = sz) (hp : 0 < sz) (hb : i.bytes ≤ 4096) (hz : (i.zero.map fun z => z.cells.size) = some sz) (l : List D) (x : D) (hl : l.length + 1 ≤ 16777216) :
  ∃ o1 n1 nx1 lv1 o2 nx2 lv2, (∀ fr bx, aappend P ⟨fr, bx, nx + 1, nx :: lv⟩ t (.slice (.own nx e) sz []) (.slice .imm (if l.isEmpty = true then 0 else sz) l) = some (.slice o1 n1 l, ⟨fr, bx, nx1, lv1⟩)) ∧
   (∀ fr bx, aappend P ⟨fr, bx, nx1 + 1, nx1 :: lv1⟩ t (.slice o1 n1 l) (.slice (.own nx1 e) sz [x]) = some (.slice o2 sz (l ++ [x]), ⟨fr, bx, nx2, lv2⟩)) ∧ Keep nx lv nx2 lv2 ∧ o2.st = .imm := by
 have h0 : Acc e sz (.own nx e) sz [] (nx :: lv) := .own List.mem_cons_self
 cases l with
 | nil =>
  refine ⟨.own nx e, sz, nx + 1, nx :: lv, .own (nx + 2) e, nx + 3, (nx + 2) :: Own.cut (.own nx e) ((nx + 1) :: nx :: lv), fun fr bx => Acc.app0 hu hi, fun fr bx => ?_, ⟨by omega, fun s h1 h2 => ?_⟩, rfl⟩
  ·exact Acc.app (σ := ⟨fr, bx, nx + 1 + 1, (nx + 1) :: nx :: lv⟩) (o2 := .own (nx + 1) e) (h0.more (nx + 1)) hu hi hs hp hb hz hl (by simp)
  ·simp only [Own.cut, List.mem_cons, List.mem_filter, bne_iff_ne, ne_eq]; exact .inr ⟨.inr (.inr h2), by omega⟩
 | cons a r =>
  refine ⟨.own (nx + 1) e, sz, nx + 2, (nx + 1) :: Own.cut (.own nx e) (nx :: lv), .own (nx + 3) e, nx + 4, (nx + 3) :: Own.cut (.own (nx + 1) e) ((nx + 2) :: (nx + 1) :: Own.cut (.own nx e) (nx :: lv)), fun fr bx => ?_, fun fr bx => ?_, ⟨by omega, fun s h1 h2 => ?_⟩, rfl⟩
  ·exact Acc.app (σ := ⟨fr, bx, nx + 1, nx :: lv⟩) (o2 := .imm) h0 hu hi hs hp hb hz (by simp at hl ⊢; omega) (by simp)
  ·exact Acc.app (σ := ⟨fr, bx, nx + 2 + 1, (nx + 2) :: (nx + 1) :: Own.cut (.own nx e) (nx :: lv)⟩) (o2 := .own (nx + 2) e) (.own (by simp)) hu hi hs hp hb hz hl (by simp)
  ·simp only [Own.cut, List.mem_cons, List.mem_filter, bne_iff_ne, ne_eq]; exact .inr ⟨.inr (.inr ⟨.inr h2, by omega⟩), by omega⟩
theorem dFt_agg (pr : Int) (path : List Int) (err : Int) (name : ByteArray) : D.agg [.int .i64 pr, .slice .imm (if (path.map dI).isEmpty = true then 0 else 1) (path.map dI), .int .i64 err, .str name] = dFt ⟨pr, path, err, name⟩ := rfl
theorem dFt_good (f : Ft) : (dFt f).good = true := rfl
theorem dFt_cells (f : Ft) : (dFt f).cells = [.int .i64 f.proc, .slice .imm (if (f.path.map dI).isEmpty = true then 0 else 1) (f.path.map dI), .int .i64 f.err, .str f.name] := rfl
theorem rep_y {pr : Int} {path : List Int} {err : Int} {name : ByteArray} (h : ¬ err = 0) : rep pr path err name = [⟨pr, path, err, name⟩] := by unfold rep; rw [if_neg h]
theorem rep_n {pr : Int} {path : List Int} {err : Int} {name : ByteArray} (h : err = 0) : rep pr path err name = [] := by unfold rep; rw [if_pos h]
theorem dFt_app (L : List Ft) (f : Ft) : L.map dFt ++ [dFt f] = (L ++ [f]).map dFt := by simp
theorem fresh_y {l : List Vd} {s : ByteArray} (h : (findN l s l.length).2 = true) : freshE l s = 22 := by unfold freshE; rw [if_pos h]
theorem fresh_n {l : List Vd} {s : ByteArray} (h : (findN l s l.length).2 = false) : freshE l s = 0 := by unfold freshE; rw [if_neg (by rw [h]; simp)]
structure Lis (M : List D) (L : List Ft) : Prop where
 s : M.map D.strip = L.map dFt
 u : D.unders 0 M = true
theorem Lis.len {M : List D} {L : List Ft} (h : Lis M L) : M.length = L.length := by have := congrArg List.length h.s; simpa using this
theorem Lis.nil : Lis [] [] := ⟨rfl, rfl⟩
theorem Lis.app {M M' : List D} {L L' : List Ft} (h : Lis M L) (h' : Lis M' L') : Lis (M ++ M') (L ++ L') := by
 refine ⟨by rw [List.map_append, List.map_append, h.s, h'.s], ?_⟩
 have h1 := h.u; have h2 := h'.u
 rw [D.unders_all] at h1 h2 ⊢
 rw [List.all_append, h1, h2]; rfl
theorem Lis.of (L : List Ft) : Lis (L.map dFt) L := ⟨by rw [List.map_map]; exact List.map_congr_left fun x _ => dFt_strip x, unders_id dFt_under 0 L⟩
theorem Lis.one {d : D} {f : Ft} (h : d.strip = dFt f) (h' : d.under 0 = true) : Lis [d] [f] := ⟨by simp [h], by simp only [D.unders, h', Bool.and_true]⟩
end Go.Proofs.Ytmglacjcefajlaa
