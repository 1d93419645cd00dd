/- The effects' sets: what a tree reads, what it writes. -/
import Derived.Test.YtkkhjpkkjpcbmaaGreatEf2
namespace Go.Proofs.YtkkhjpkkjpcbmaaGreat
open Go.RowKit Go.Maps Go.Shelf

theorem box_grown {w w1 : World} {c0 c1 c2 c3 : Value} {ty : Nat} (h : ((w.alloc (.cells #[c0, c1, c2, c3] ty)).alloc (.map #[] 0)).grownBy w1 (some (w.heap.size + 1))) :
  w1.cell? ⟨w.heap.size, 0, none⟩ = some c0 ∧ w1.cell? ⟨w.heap.size, 1, none⟩ = some c1 ∧ w1.cell? ⟨w.heap.size, 2, none⟩ = some c2 ∧ w1.cell? ⟨w.heap.size, 3, none⟩ = some c3 := by
 have h1 : w1.heap[w.heap.size]? = some (.cells #[c0, c1, c2, c3] ty (0, 0)) := (h.block _ (by simp; omega) (by simp)).trans ((Below.heap_alloc _ _ _ (by simp)).trans (heap_new w _))
 exact ⟨cell_of_row _ _ _ _ _ _ h1, cell_of_row _ _ _ _ _ _ h1, cell_of_row _ _ _ _ _ _ h1, cell_of_row _ _ _ _ _ _ h1⟩
def usesN (k : Int) : Bool := k == 2 || k == 3 || k == 4 || k == 5 || k == 44 || k == 45
mutual
def readsT : Tr → List Nm
 | .mk k _ s c => (if usesN k then [s.data.toList] else []) ++ readsK k s.data.toList 0 c
def readsK (k : Int) (s : Nm) : Nat → List Tr → List Nm
 | _, [] => []
 | i, t :: r => (if hidesN k i then (readsT t).filter (fun x => x != s) else readsT t) ++ readsK k s (i + 1) r
end
theorem readsK_eq (k : Int) (s : Nm) : ∀ (c : List Tr) (i : Nat), readsK k s i c = partsL (unionF readsT k s) i c
 | [], i => by simp [readsK, partsL]
 | t :: r, i => by
  rw [readsK, partsL, readsK_eq k s r (i + 1)]
  rfl
theorem readsT_mk (k n : Int) (s : ByteArray) (c : List Tr) : readsT (.mk k n s c) = (if usesN k then [s.data.toList] else []) ++ partsL (unionF readsT k s.data.toList) 0 c := by rw [readsT, readsK_eq]

set_option maxRecDepth 100000 in
set_option maxHeartbeats 4000000 in
theorem reads_any (t : Tr) : ∀ (v : Value) (w : World), Rep w w.heap.size t v → t.size ≤ 1000000 → Calls Tryz.prog 28 #[v] w (SetPost t (readsT t) w) := by
 induction t using Tr.ind with
 | h k n s c ih =>
 intro v w hr hsz
 simp only [Rep] at hr
 obtain ⟨A, cap, rfl, hf, hrow⟩ := hr
 have hl1 := hf.l1
 have hl2 := hf.c1
 have hmm := @run_makeMap Tryz.prog
 have hszc : Tr.sizes c + 1 ≤ 1000000 := by simpa [Tr.size] using hsz
 have hb1 : Below w.heap.size w (w.alloc (.cells #[.int .u8 k, .int .i64 n, .string s, .slice A c.length cap] 26)) := (Below.refl _ w).alloc (Nat.le_refl _) _
 have HB2 := Lib.hid (hb1.alloc (by simp) (.map #[] 0))
 have HM := Lib.hid (show SetW ((w.alloc (.cells #[.int .u8 k, .int .i64 n, .string s, .slice A c.length cap] 26)).alloc (.map #[] 0)) (w.heap.size + 1) 0 [] by simpa using setAt_made (w.alloc (.cells #[.int .u8 k, .int .i64 n, .string s, .slice A c.length cap] 26)) Tryz.prog 9 4)
 have HROW := Lib.hid (hrow.below HB2.out)
 have HF := Lib.hid hf
 have HIH := Lib.hid (fun (t : Tr) (ht : t ∈ c) (v : Value) (w : World) (h : Rep w w.heap.size t v) => ih t ht v w h (by have := Tr.size_le_of_mem ht; omega))
 have hkey : keyOf Tryz.prog 9 (.string s) = some (.string s.data.toList) := Go.WideMaps.keyOf_string_mk Tryz.underlying9 (by unfold maxLen; exact hf.s1)
 have x0 : ((w.alloc (.cells #[.int .u8 k, .int .i64 n, .string s, .slice A c.length cap] 26)).alloc (.map #[] 0)).cell? ⟨w.heap.size, 0, none⟩ = some (.int .u8 k) := cell_of_row _ _ _ _ _ _ ((Below.heap_alloc _ _ _ (by simp)).trans (heap_new w _))
 clear ih hrow hb1
 unfold nodeV
 obtain ⟨D0, hD0, hS0⟩ := HM.out
 have HD0 := Lib.hid hD0
 have HS0 := Lib.hid hS0
 clear hD0 hS0
 by_cases hu : usesN k = true
 ·have HU := Lib.hid hu
  have hcase : k = 2 ∨ k = 3 ∨ k = 4 ∨ k = 5 ∨ k = 44 ∨ k = 45 := by simpa [usesN, or_assoc] using hu
  clear hu
  rcases hcase with rfl | rfl | rfl | rfl | rfl | rfl
  all_goals
   go_enter Tryz.func28, Tryz.ntmps28
   go_wp2_with (first
    | (at_mapUpdate; refine wpList_mapUpdate_own _ rfl _ _ _ 63 rfl 9 4 keyedS Tryz.underlying63 (plainElem Tryz.prog 4) (w.heap.size + 1) 0 D0 rfl HD0.out (by decide) _ _ _ rfl rfl hkey _ [] (plainElem_bool Tryz.underlying4 true) ?_; intro w1 hown1 hgrow1; obtain ⟨y0, y1, y2, y3⟩ := box_grown hgrow1))
   have HO1 := Lib.hid hown1
   have HG1 := Lib.hid hgrow1
   have hsz1 := hgrow1.size
   clear hown1 hgrow1
   refine (union_reads readsT _ n s c A cap HIH.out (w.heap.size + 1) (0 + 1) w.heap.size ([] ++ [s.data.toList]) w1 (HROW.out.below (((Below.refl _ _).grown HG1.out (by simp; omega) (fun q hq => by cases hq; omega)))) HF.out (by simp at hsz1; omega) (by omega) (by omega) ⟨_, HO1.out, isSet_put HD0.out.isMap HS0.out _⟩).mono ?_
   rintro e w2 ⟨rfl, hs2, hb2⟩
   have HS2 := Lib.hid hs2
   have HBB := Lib.hid hb2
   clear hs2 hb2
   go_wp2_with fail
   go_ret
   refine ⟨w.heap.size + 1, rfl, by omega, ?_, (HB2.out.grown HG1.out (by simp; omega) (fun q hq => by cases hq; omega)).trans HBB.out⟩
   have h := HS2.out
   rw [readsT_mk, if_pos HU.out]
   simpa [Tr.size, Nat.add_comm] using h
 ·have HU := Lib.hid (show usesN k = false by simpa using hu)
  have hcase : (k == 2) = false ∧ (k == 3) = false ∧ (k == 4) = false ∧ (k == 5) = false ∧ (k == 44) = false ∧ (k == 45) = false := by
   have h := HU.out
   simp only [usesN, Bool.or_eq_false_iff] at h
   simp only [h, and_self]
  obtain ⟨q1, q2, q3, q4, q5, q6⟩ := hcase
  clear hu
  go_enter Tryz.func28, Tryz.ntmps28
  go_wp2_with fail
  refine (union_reads readsT _ n s c A cap HIH.out (w.heap.size + 1) 0 w.heap.size [] _ HROW.out HF.out (by simp; omega) (by omega) (by omega) HM.out).mono ?_
  rintro e w2 ⟨rfl, hs2, hb2⟩
  have HS2 := Lib.hid hs2
  have HBB := Lib.hid hb2
  clear hs2 hb2
  go_wp2_with fail
  go_ret
  refine ⟨w.heap.size + 1, rfl, by omega, ?_, HB2.out.trans HBB.out⟩
  have h := HS2.out
  rw [readsT_mk, if_neg (by rw [HU.out]; simp)]
  refine SetAt.mono (by simpa using h) (by simp [Tr.size])
end Go.Proofs.YtkkhjpkkjpcbmaaGreat
