/- Append accumulators beside other appends; lists that are known but for their stamps. -/
import Derived.Test.YtmglacjcefajlaaSc2
namespace Go.Proofs.Ytmglacjcefajlaa
open Go.RowKit
/-- an accumulator whose stamp is older than the next one -/
structure AccB (e : TypeId) (sz : Nat) (o : Own) (n : Nat) (L : List D) (nx : Nat) (lv : List Nat) : Prop where
 a : Acc e sz o n L lv
 b : ∀ s e', o = .own s e' → s < nx
structure Keep (nx : Nat) (lv : List Nat) (nx' : Nat) (lv' : List Nat) : Prop where
 l : nx ≤ nx'
 k : ∀ s, s < nx → s ∈ lv → s ∈ lv'
theorem AccB.nil (e : TypeId) (sz nx : Nat) (lv : List Nat) : AccB e sz .nil 0 [] nx lv := ⟨.nil _ _ _, fun s e' h => by cases h⟩
theorem AccB.own {e : TypeId} {sz st nx : Nat} {L : List D} {lv : List Nat} (h : st ∈ lv) (h' : st < nx) : AccB e sz (.own st e) sz L nx lv := ⟨.own h, fun s e' q => by cases q; exact h'⟩
theorem AccB.appE {P : Program} {t e : TypeId} {i : TypeInfo} {sz : Nat} {o : Own} {n : Nat} {L : List D} {nx : Nat} {lv : List Nat} (h : AccB e sz o n L nx lv) (hu : P.underlying t = some (.slice e)) (hi : P.info? e = some i) (hs : i.size = sz) (hp : 0 < sz) (hb : i.bytes ≤ 4096) (hz : (i.zero.map fun z => z.cells.size) = some sz) (l2 : List D)
  (hl : L.length + l2.length ≤ 16777216) : ∃ o' n' nx' lv', AccB e sz o' n' (L ++ l2) nx' lv' ∧ ∀ fr bx, aappend P ⟨fr, bx, nx, lv⟩ t (.slice o n L) (.slice .imm (if l2.isEmpty = true then 0 else sz) l2) = some (.slice o' n' (L ++ l2), ⟨fr, bx, nx', lv'⟩) := by
 cases l2 with
 | nil => exact ⟨o, n, nx, lv, by rw [List.append_nil]; exact h, fun fr bx => by rw [List.append_nil]; exact Acc.app0 hu hi⟩
 | cons a r =>
  refine ⟨.own nx e, sz, nx + 1, nx :: o.cut lv, .own (List.mem_cons_self) (by omega), fun fr bx => ?_⟩
  exact Acc.app (σ := ⟨fr, bx, nx, lv⟩) (o2 := .imm) h.a hu hi hs hp hb hz hl (by simp)
theorem AccB.app1 {P : Program} {t e : TypeId} {i : TypeInfo} {sz : Nat} {o : Own} {n : Nat} {L : List D} {nx : Nat} {lv : List Nat} (h : AccB e sz o n L nx lv) (hu : P.underlying t = some (.slice e)) (hi : P.info? e = some i) (hs : i.size = sz) (hp : 0 < sz) (hb : i.bytes ≤ 4096) (hz : (i.zero.map fun z => z.cells.size) = some sz) (x : D)
  (hl : L.length + 1 ≤ 16777216) : ∃ lv', AccB e sz (.own (nx + 1) e) sz (L ++ [x]) (nx + 1 + 1) lv' ∧ ∀ fr bx, aappend P ⟨fr, bx, nx + 1, nx :: lv⟩ t (.slice o n L) (.slice (.own nx e) sz [x]) = some (.slice (.own (nx + 1) e) sz (L ++ [x]), ⟨fr, bx, nx + 1 + 1, lv'⟩) :=
 ⟨(nx + 1) :: o.cut (nx :: lv), .own List.mem_cons_self (by omega), fun fr bx => Acc.app (σ := ⟨fr, bx, nx + 1, nx :: lv⟩) (o2 := .own nx e) (l2 := [x]) (h.a.more nx) hu hi hs hp hb hz hl (by simp)⟩
theorem rep_y {pr : Int} {path : List Int} {err : Int} {name : ByteArray} (h : ¬ err = 0) : rep pr path err name = [⟨pr, path, err, name⟩] := by unfold rep; rw [if_neg h]
theorem rep_n {pr : Int} {path : List Int} {err : Int} {name : ByteArray} (h : err = 0) : rep pr path err name = [] := by unfold rep; rw [if_pos h]
structure Lis (M : List D) (L : List Ft) : Prop where
 s : M.map D.strip = L.map dFt
 u : D.unders 0 M = true
theorem Lis.len {M : List D} {L : List Ft} (h : Lis M L) : M.length = L.length := by have := congrArg List.length h.s; simpa using this
theorem Lis.nil : Lis [] [] := ⟨rfl, rfl⟩
theorem Lis.app {M M' : List D} {L L' : List Ft} (h : Lis M L) (h' : Lis M' L') : Lis (M ++ M') (L ++ L') := by
 refine ⟨by rw [List.map_append, List.map_append, h.s, h'.s], ?_⟩
 have h1 := h.u; have h2 := h'.u
 rw [D.unders_all] at h1 h2 ⊢
 rw [List.all_append, h1, h2]; rfl
theorem Lis.of (L : List Ft) : Lis (L.map dFt) L := ⟨by rw [List.map_map]; exact List.map_congr_left fun x _ => dFt_strip x, unders_id dFt_under 0 L⟩
theorem Lis.one {d : D} {f : Ft} (h : d.strip = dFt f) (h' : d.under 0 = true) : Lis [d] [f] := ⟨by simp [h], by simp only [D.unders, h', Bool.and_true]⟩
end Go.Proofs.Ytmglacjcefajlaa
