/- The effects' sets: what a tree reads, what it writes. -/
import Derived.Test.YtkkhjpkkjpcbmaaGreatEf2w
import Derived.Test.YtkkhjpkkjpcbmaaGreatEf3
namespace Go.Proofs.YtkkhjpkkjpcbmaaGreat
open Go.RowKit Go.Maps Go.Shelf

def updN (k : Int) : Bool := k == 40 || k == 41 || k == 42 || k == 56 || k == 46 || k == 47 || k == 48 || k == 49
def bodN (k : Int) : Bool := k == 57 || k == 52 || k == 53 || k == 54 || k == 55
mutual
def writesT : Tr → List Nm
 | .mk k _ s c => if updN k then partsL (placeF 1) 0 c else if k == 43 then partsL (placeF 2) 0 c else if k == 44 || k == 45 then [s.data.toList] ++ partsL (placeF 1) 0 c else if k == 50 || k == 51 then partsL (placeF c.length) 0 c else if bodN k then writesK k s.data.toList 0 c else []
def writesK (k : Int) (s : Nm) : Nat → List Tr → List Nm
 | _, [] => []
 | i, t :: r => (if hidesN k i then (writesT t).filter (fun x => x != s) else writesT t) ++ writesK k s (i + 1) r
end
theorem writesK_eq (k : Int) (s : Nm) : ∀ (c : List Tr) (i : Nat), writesK k s i c = partsL (unionF writesT k s) i c
 | [], i => by simp [writesK, partsL]
 | t :: r, i => by
  rw [writesK, partsL, writesK_eq k s r (i + 1)]
  rfl
theorem writesT_mk (k n : Int) (s : ByteArray) (c : List Tr) : writesT (.mk k n s c) = if updN k then partsL (placeF 1) 0 c else if k == 43 then partsL (placeF 2) 0 c else if k == 44 || k == 45 then [s.data.toList] ++ partsL (placeF 1) 0 c else if k == 50 || k == 51 then partsL (placeF c.length) 0 c else if bodN k then partsL (unionF writesT k s.data.toList) 0 c else [] := by
 rw [writesT]
 simp only [writesK_eq]

set_option maxRecDepth 100000 in
set_option maxHeartbeats 8000000 in
theorem writes_any (t : Tr) : ∀ (v : Value) (w : World), Rep w w.heap.size t v → t.size ≤ 1000000 → Calls Tryz.prog 34 #[v] w (SetPost t (writesT t) w) := by
 induction t using Tr.ind with
 | h k n s c ih =>
 intro v w hr hsz
 simp only [Rep] at hr
 obtain ⟨A, cap, rfl, hf, hrow⟩ := hr
 have hl1 := hf.l1
 have hl2 := hf.c1
 have hmm := @run_makeMap Tryz.prog
 have hszc : Tr.sizes c + 1 ≤ 1000000 := by simpa [Tr.size] using hsz
 have hlc : c.length ≤ Tr.sizes c := Tr.length_le_sizes c
 have hb1 : Below w.heap.size w (w.alloc (.cells #[.int .u8 k, .int .i64 n, .string s, .slice A c.length cap] 26)) := (Below.refl _ w).alloc (Nat.le_refl _) _
 have HB2 := Lib.hid (hb1.alloc (by simp) (.map #[] 0))
 have HM := Lib.hid (show SetW ((w.alloc (.cells #[.int .u8 k, .int .i64 n, .string s, .slice A c.length cap] 26)).alloc (.map #[] 0)) (w.heap.size + 1) 0 [] by simpa using setAt_made (w.alloc (.cells #[.int .u8 k, .int .i64 n, .string s, .slice A c.length cap] 26)) Tryz.prog 9 4)
 have HROW := Lib.hid (hrow.below HB2.out)
 have HF := Lib.hid hf
 have HIH := Lib.hid (fun (t : Tr) (ht : t ∈ c) (v : Value) (w : World) (h : Rep w w.heap.size t v) => ih t ht v w h (by have := Tr.size_le_of_mem ht; omega))
 have hkey : keyOf Tryz.prog 9 (.string s) = some (.string s.data.toList) := Go.WideMaps.keyOf_string_mk Tryz.underlying9 (by unfold maxLen; exact hf.s1)
 have x0 : ((w.alloc (.cells #[.int .u8 k, .int .i64 n, .string s, .slice A c.length cap] 26)).alloc (.map #[] 0)).cell? ⟨w.heap.size, 0, none⟩ = some (.int .u8 k) := cell_of_row _ _ _ _ _ _ ((Below.heap_alloc _ _ _ (by simp)).trans (heap_new w _))
 clear ih hrow hb1
 unfold nodeV
 obtain ⟨D0, hD0, hS0⟩ := HM.out
 have HD0 := Lib.hid hD0
 have HS0 := Lib.hid hS0
 clear hD0 hS0
 have hW := writesT_mk k n s c
 by_cases h1 : updN k = true
 ·have hcase : k = 40 ∨ k = 41 ∨ k = 42 ∨ k = 56 ∨ k = 46 ∨ k = 47 ∨ k = 48 ∨ k = 49 := by simpa [updN, or_assoc] using h1
  clear h1
  rcases hcase with rfl | rfl | rfl | rfl | rfl | rfl | rfl | rfl
  all_goals
   simp only [updN, Int.reduceBEq, Bool.or_false, Bool.or_true, if_true] at hW
   have HW := Lib.hid hW
   clear hW
   go_enter Tryz.func34, Tryz.ntmps34
   go_wp2_with fail
   refine (places_any c A cap 1 (w.heap.size + 1) 0 w.heap.size [] _ HROW.out (by simp; omega) (by omega) hl1 hl2 (by omega) HM.out).mono ?_
   rintro e w2 ⟨rfl, hs2, hb2⟩
   have HS2 := Lib.hid hs2
   have HBB := Lib.hid hb2
   clear hs2 hb2
   go_wp2_with fail
   go_ret
   refine ⟨w.heap.size + 1, rfl, by omega, ?_, HB2.out.trans HBB.out⟩
   have h := HS2.out
   rw [HW.out]
   refine SetAt.mono (by simpa using h) (by simp [Tr.size]; omega)
 ·by_cases h2 : k = 43
  ·subst h2
   clear h1
   simp only [updN, Int.reduceBEq, Bool.or_false, if_true, Bool.false_eq_true, if_false] at hW
   have HW := Lib.hid hW
   clear hW
   go_enter Tryz.func34, Tryz.ntmps34
   go_wp2_with fail
   refine (places_any c A cap 2 (w.heap.size + 1) 0 w.heap.size [] _ HROW.out (by simp; omega) (by omega) hl1 hl2 (by omega) HM.out).mono ?_
   rintro e w2 ⟨rfl, hs2, hb2⟩
   have HS2 := Lib.hid hs2
   have HBB := Lib.hid hb2
   clear hs2 hb2
   go_wp2_with fail
   go_ret
   refine ⟨w.heap.size + 1, rfl, by omega, ?_, HB2.out.trans HBB.out⟩
   have h := HS2.out
   rw [HW.out]
   refine SetAt.mono (by simpa using h) (by simp [Tr.size]; omega)
  ·by_cases h3 : (k == 44 || k == 45) = true
   ·have hcase : k = 44 ∨ k = 45 := by simpa using h3
    clear h1 h2 h3
    rcases hcase with rfl | rfl
    all_goals
     simp only [updN, Int.reduceBEq, Bool.or_false, Bool.or_true, if_true, Bool.false_eq_true, if_false] at hW
     have HW := Lib.hid hW
     clear hW
     go_enter Tryz.func34, Tryz.ntmps34
     go_wp2_with (first
      | (at_mapUpdate; refine wpList_mapUpdate_own _ rfl _ _ _ 63 rfl 9 4 keyedS Tryz.underlying63 (plainElem Tryz.prog 4) (w.heap.size + 1) 0 D0 rfl HD0.out (by decide) _ _ _ rfl rfl hkey _ [] (plainElem_bool Tryz.underlying4 true) ?_; intro w1 hown1 hgrow1; obtain ⟨y0, y1, y2, y3⟩ := box_grown hgrow1))
     have HO1 := Lib.hid hown1
     have HG1 := Lib.hid hgrow1
     have hsz1 := hgrow1.size
     clear hown1 hgrow1
     refine (places_any c A cap 1 (w.heap.size + 1) (0 + 1) w.heap.size ([] ++ [s.data.toList]) w1 (HROW.out.below (((Below.refl _ _).grown HG1.out (by simp; omega) (fun q hq => by cases hq; omega)))) (by simp at hsz1; omega) (by omega) hl1 hl2 (by omega) ⟨_, HO1.out, isSet_put HD0.out.isMap HS0.out _⟩).mono ?_
     rintro e w2 ⟨rfl, hs2, hb2⟩
     have HS2 := Lib.hid hs2
     have HBB := Lib.hid hb2
     clear hs2 hb2
     go_wp2_with fail
     go_ret
     refine ⟨w.heap.size + 1, rfl, by omega, ?_, (HB2.out.grown HG1.out (by simp; omega) (fun q hq => by cases hq; omega)).trans HBB.out⟩
     have h := HS2.out
     rw [HW.out]
     refine SetAt.mono (by simpa using h) (by simp [Tr.size]; omega)
   ·by_cases h4 : (k == 50 || k == 51) = true
    ·have hcase : k = 50 ∨ k = 51 := by simpa using h4
     clear h1 h2 h3 h4
     rcases hcase with rfl | rfl
     all_goals
      simp only [updN, Int.reduceBEq, Bool.or_false, Bool.or_true, if_true, Bool.false_eq_true, if_false] at hW
      have HW := Lib.hid hW
      clear hW
      go_enter Tryz.func34, Tryz.ntmps34
      go_wp2_with fail
      refine (places_any c A cap c.length (w.heap.size + 1) 0 w.heap.size [] _ HROW.out (by simp; omega) (by omega) hl1 hl2 (by omega) HM.out).mono ?_
      rintro e w2 ⟨rfl, hs2, hb2⟩
      have HS2 := Lib.hid hs2
      have HBB := Lib.hid hb2
      clear hs2 hb2
      go_wp2_with fail
      go_ret
      refine ⟨w.heap.size + 1, rfl, by omega, ?_, HB2.out.trans HBB.out⟩
      have h := HS2.out
      rw [HW.out]
      refine SetAt.mono (by simpa using h) (by simp [Tr.size]; omega)
    ·by_cases h5 : bodN k = true
     ·have hcase : k = 57 ∨ k = 52 ∨ k = 53 ∨ k = 54 ∨ k = 55 := by simpa [bodN, or_assoc] using h5
      clear h1 h2 h3 h4 h5
      rcases hcase with rfl | rfl | rfl | rfl | rfl
      all_goals
       simp only [updN, bodN, Int.reduceBEq, Bool.or_false, Bool.or_true, if_true, Bool.false_eq_true, if_false] at hW
       have HW := Lib.hid hW
       clear hW
       go_enter Tryz.func34, Tryz.ntmps34
       go_wp2_with fail
       refine (union_writes writesT _ n s c A cap HIH.out (w.heap.size + 1) 0 w.heap.size [] _ HROW.out HF.out (by simp; omega) (by omega) (by omega) HM.out).mono ?_
       rintro e w2 ⟨rfl, hs2, hb2⟩
       have HS2 := Lib.hid hs2
       have HBB := Lib.hid hb2
       clear hs2 hb2
       go_wp2_with fail
       go_ret
       refine ⟨w.heap.size + 1, rfl, by omega, ?_, HB2.out.trans HBB.out⟩
       have h := HS2.out
       rw [HW.out]
       refine SetAt.mono (by simpa using h) (by simp [Tr.size])
     ·have HW := Lib.hid (show writesT (.mk k n s c) = [] by rw [writesT_mk, if_neg h1, if_neg (by simpa using h2), if_neg h3, if_neg h4, if_neg h5])
      simp only [updN, bodN, Bool.or_eq_true, not_or, Bool.not_eq_true] at h1 h3 h4 h5
      have h2' : (k == 43) = false := by simpa using h2
      obtain ⟨⟨⟨⟨⟨⟨⟨a1, a2⟩, a3⟩, a4⟩, a5⟩, a6⟩, a7⟩, a8⟩ := h1
      obtain ⟨b1, b2⟩ := h3
      obtain ⟨c1, c2⟩ := h4
      obtain ⟨⟨⟨⟨d1, d2⟩, d3⟩, d4⟩, d5⟩ := h5
      clear h2 hW
      go_enter Tryz.func34, Tryz.ntmps34
      go_wp2_with fail
      go_ret
      refine ⟨w.heap.size + 1, rfl, by omega, ?_, HB2.out⟩
      rw [HW.out]
      exact HM.out.mono (by omega)
end Go.Proofs.YtkkhjpkkjpcbmaaGreat
