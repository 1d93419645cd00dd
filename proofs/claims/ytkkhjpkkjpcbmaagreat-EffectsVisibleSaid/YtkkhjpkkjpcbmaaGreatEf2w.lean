/- The effects' sets: unions of what is written. -/
import Derived.Test.YtkkhjpkkjpcbmaaGreatEf2
namespace Go.Proofs.YtkkhjpkkjpcbmaaGreat
open Go.RowKit Go.Maps Go.Shelf

set_option maxRecDepth 100000 in
set_option maxHeartbeats 4000000 in
theorem union_writes (E : Tr → List Nm) (k n : Int) (s : ByteArray) (c : List Tr) (A : Option Addr) (cap : Nat) (hE : ∀ t, t ∈ c → ∀ (v : Value) (w : World), Rep w w.heap.size t v → Calls Tryz.prog 34 #[v] w (SetPost t (E t) w))
  (b0 n0 B : Nat) (L0 : List Nm) (w : World) (hrow : RepRow w B c A 0) (hf : Fits k n s c.length cap) (hB : B ≤ w.heap.size) (hb0 : B ≤ b0)
  (hn : n0 + Tr.sizes c ≤ 1000000000) (hs : SetW w b0 n0 L0) :
  Calls Tryz.prog 49 #[.map (some b0), nodeV k n s A c.length cap, .func (.func 34) #[] #[]] w fun e w' => e = .returned (.tuple #[]) ∧ SetW w' b0 (n0 + Tr.sizes c) (L0 ++ partsL (unionF E k s.data.toList) 0 c) ∧ Below B w w' := by
 have HROW := Lib.hid hrow
 have HS := Lib.hid hs
 have HE := Lib.hid hE
 have hl := hf.l1
 have hc := hf.c1
 have hlt0 := hs.lt
 have HB := Lib.hid hB
 have hkey : keyOf Tryz.prog 9 (.string s) = some (.string s.data.toList) := Go.WideMaps.keyOf_string_mk Tryz.underlying9 (by unfold maxLen; exact hf.s1)
 clear hrow hs hE
 unfold nodeV
 go_enter Tryz.func49, Tryz.ntmps49
 go_wp2_with fail
 go_loopw [12] (fun i wr => ∃ j : Nat, j ≤ c.length ∧ i = .int .i64 j ∧ SetW wr b0 (n0 + Tr.sizes (c.take j)) (L0 ++ partsL (unionF E k s.data.toList) 0 (c.take j)) ∧ Below B w wr ∧ wr.heap[w.heap.size]? = some (.cells #[.int .u8 k, .int .i64 n, .string s, .slice A c.length cap] 26 (0, 0)) ∧ w.heap.size + 1 ≤ wr.heap.size) (fun i _ => c.length - (intOf i).toNat)
 case atStart =>
  have hbw : Below w.heap.size w (w.alloc (.cells #[.int .u8 k, .int .i64 n, .string s, .slice A c.length cap] 26)) := (Below.refl _ w).alloc (Nat.le_refl _) _
  exact ⟨0, Nat.zero_le _, rfl, by simpa [partsL, Tr.sizes] using HS.out.below hbw hlt0, hbw.mono hB, heap_new w _, by simp⟩
 case round =>
  obtain ⟨j, hj, rfl, hset, hb, hbx, hwsz⟩ := hrel
  have HSET := Lib.hid hset
  have hslt := hset.lt
  clear hset
  have x0 : wr.cell? ⟨w.heap.size, 0, none⟩ = some (.int .u8 k) := cell_of_row _ _ _ _ _ _ hbx
  have x2 : wr.cell? ⟨w.heap.size, 2, none⟩ = some (.string s) := cell_of_row _ _ _ _ _ _ hbx
  by_cases hlt : j < c.length
  ·obtain ⟨b, off, A', cap', rfl, hbB, h0, h1, h2, h3, hk⟩ := (HROW.out.below hb).kid j hlt
   have HSN := Lib.hid (partsL_snoc (unionF E k s.data.toList) c j hlt)
   have HMEM := Lib.hid (List.getElem_mem hlt)
   have HK := Lib.hid hk
   have HTK := Lib.hid (Tr.sizes_take c j hlt)
   have HRM := Lib.hid (show n0 + Tr.sizes (c.take j) + c[j].size ≤ 1000000000 by have h1 := Tr.sizes_take_le c (j + 1); rw [Tr.sizes_take c j hlt] at h1; omega)
   clear hk
   have HLE := Lib.hid (show B ≤ wr.heap.size by omega)
   have HBB := Lib.hid hb
   have HBX := Lib.hid hbx
   clear hb hbx
   go_wp2_with fail
   refine (HE.out _ HMEM.out _ _ ((HK.out.below ((Below.refl _ wr).alloc (Nat.le_refl _) _ |>.mono HLE.out)).more (by simp; omega))).mono ?_
   rintro e w1 ⟨b1, rfl, hb1, hs1, hbl⟩
   have hbw : Below wr.heap.size wr w1 := ((Below.refl _ wr).alloc (Nat.le_refl _) _).trans (hbl.mono (by simp))
   have hb1' : wr.heap.size + 1 ≤ b1 := by simpa using hb1
   have hbs := hbw.size
   have HBW := Lib.hid hbw
   have HX1 := Lib.hid ((hbw.block w.heap.size (by omega)).trans HBX.out)
   have HS0 := Lib.hid (HSET.out.below hbw hslt)
   have HNE := Lib.hid (show b0 ≠ b1 by omega)
   have HB1 := Lib.hid (HBB.out.trans (hbw.mono HLE.out))
   have y0 : w1.cell? ⟨w.heap.size, 0, none⟩ = some (.int .u8 k) := cell_of_row _ _ _ _ _ _ HX1.out
   have y2 : w1.cell? ⟨w.heap.size, 2, none⟩ = some (.string s) := cell_of_row _ _ _ _ _ _ HX1.out
   clear hbl hbw x0 x2 h0 h1 h2 h3 hb1
   by_cases hh : hidesN k j = true
   ·have HF := Lib.hid (show unionF E k s.data.toList j c[j] = (E c[j]).filter (fun x => x != s.data.toList) from if_pos hh)
    obtain ⟨D1, ho1, hD1⟩ := hs1
    have HD1 := Lib.hid hD1
    have HO1 := Lib.hid ho1
    clear hD1 ho1
    have hcase : (k = 54 ∧ j = 1) ∨ (k = 55 ∧ j = 0) := by simpa [hidesN] using hh
    clear hh
    rcases hcase with ⟨hk54, hj1⟩ | ⟨hk54, hj1⟩
    ·subst hk54
     have hjb : ((j : Int) == 1) = true := by simp [hj1]
     clear hj1
     go_wp2_with (first
      | (at_delete; refine wpList_delete_own _ rfl _ _ 63 9 rfl 4 keyedS Tryz.underlying63 (plainElem Tryz.prog 4) b1 c[j].size D1 rfl HO1.out _ _ rfl hkey ?_; intro w2 ho2 ht2))
     have hs0 := HS0.out.turned ht2 HNE.out
     have hg2 := ht2.grown
     have hsz2 := hg2.size
     have HG2 := Lib.hid hg2
     have HS02 := Lib.hid hs0
     have HO2 := Lib.hid ho2
     have HX2 := Lib.hid ((HG2.out.block w.heap.size (by omega) (by simp; omega)).trans HX1.out)
     clear hs0 hg2 ho2 ht2
     refine (copy_set b0 b1 (n0 + Tr.sizes (c.take j)) c[j].size _ _ _ HS02.out ⟨_, HO2.out, isSet_del HD1.out _⟩ HNE.out HRM.out).mono ?_
     rintro e w3 ⟨rfl, hs3, hg3⟩
     have HS3 := Lib.hid hs3
     have HG3 := Lib.hid hg3
     clear hs3 hg3
     go_wp2_with fail
     go_roundw
     case rel =>
      have hsz3 := HG3.out.size
      refine ⟨j + 1, by omega, by go_num, ?_, (HB1.out.grown HG2.out (by have := HLE.out; omega) (fun q hq => by cases hq; have := HLE.out; omega)).grown HG3.out (by have := HLE.out; omega) (fun q hq => by cases hq; exact hb0), (HG3.out.block _ (by omega) (by simp; omega)).trans HX2.out, by omega⟩
      rw [HSN.out, HF.out, ← List.append_assoc, HTK.out, ← Nat.add_assoc]
      exact HS3.out
     case measure => simp [intOf]; omega
    ·subst hk54
     have hjb : ((j : Int) == 0) = true := by simp [hj1]
     clear hj1
     go_wp2_with (first
      | (at_delete; refine wpList_delete_own _ rfl _ _ 63 9 rfl 4 keyedS Tryz.underlying63 (plainElem Tryz.prog 4) b1 c[j].size D1 rfl HO1.out _ _ rfl hkey ?_; intro w2 ho2 ht2))
     have hs0 := HS0.out.turned ht2 HNE.out
     have hg2 := ht2.grown
     have hsz2 := hg2.size
     have HG2 := Lib.hid hg2
     have HS02 := Lib.hid hs0
     have HO2 := Lib.hid ho2
     have HX2 := Lib.hid ((HG2.out.block w.heap.size (by omega) (by simp; omega)).trans HX1.out)
     clear hs0 hg2 ho2 ht2
     refine (copy_set b0 b1 (n0 + Tr.sizes (c.take j)) c[j].size _ _ _ HS02.out ⟨_, HO2.out, isSet_del HD1.out _⟩ HNE.out HRM.out).mono ?_
     rintro e w3 ⟨rfl, hs3, hg3⟩
     have HS3 := Lib.hid hs3
     have HG3 := Lib.hid hg3
     clear hs3 hg3
     go_wp2_with fail
     go_roundw
     case rel =>
      have hsz3 := HG3.out.size
      refine ⟨j + 1, by omega, by go_num, ?_, (HB1.out.grown HG2.out (by have := HLE.out; omega) (fun q hq => by cases hq; have := HLE.out; omega)).grown HG3.out (by have := HLE.out; omega) (fun q hq => by cases hq; exact hb0), (HG3.out.block _ (by omega) (by simp; omega)).trans HX2.out, by omega⟩
      rw [HSN.out, HF.out, ← List.append_assoc, HTK.out, ← Nat.add_assoc]
      exact HS3.out
     case measure => simp [intOf]; omega
   ·have HF := Lib.hid (show unionF E k s.data.toList j c[j] = E c[j] from if_neg hh)
    have HS1 := Lib.hid hs1
    have hcase : (k = 54 ∧ ¬ j = 1) ∨ (k = 55 ∧ ¬ j = 0) ∨ (¬ k = 54 ∧ ¬ k = 55) := by
     have h1 : ¬ (k = 54 ∧ j = 1) := fun q => hh (by simp [hidesN, q.1, q.2])
     have h2 : ¬ (k = 55 ∧ j = 0) := fun q => hh (by simp [hidesN, q.1, q.2])
     omega
    clear hh hs1
    rcases hcase with ⟨hk54, hj1⟩ | ⟨hk54, hj1⟩ | ⟨hk54, hk55⟩
    ·subst hk54
     have hjb : ((j : Int) == 1) = false := by simp; omega
     clear hj1
     go_wp2_with fail
     refine (copy_set b0 b1 (n0 + Tr.sizes (c.take j)) c[j].size _ _ _ HS0.out HS1.out HNE.out HRM.out).mono ?_
     rintro e w3 ⟨rfl, hs3, hg3⟩
     have HS3 := Lib.hid hs3
     have HG3 := Lib.hid hg3
     clear hs3 hg3
     go_wp2_with fail
     go_roundw
     case rel =>
      have hsz3 := HG3.out.size
      refine ⟨j + 1, by omega, by go_num, ?_, HB1.out.grown HG3.out (by have := HLE.out; omega) (fun q hq => by cases hq; exact hb0), (HG3.out.block _ (by omega) (by simp; omega)).trans HX1.out, by omega⟩
      rw [HSN.out, HF.out, ← List.append_assoc, HTK.out, ← Nat.add_assoc]
      exact HS3.out
     case measure => simp [intOf]; omega
    ·subst hk54
     have hjb : ((j : Int) == 0) = false := by simp; omega
     clear hj1
     go_wp2_with fail
     refine (copy_set b0 b1 (n0 + Tr.sizes (c.take j)) c[j].size _ _ _ HS0.out HS1.out HNE.out HRM.out).mono ?_
     rintro e w3 ⟨rfl, hs3, hg3⟩
     have HS3 := Lib.hid hs3
     have HG3 := Lib.hid hg3
     clear hs3 hg3
     go_wp2_with fail
     go_roundw
     case rel =>
      have hsz3 := HG3.out.size
      refine ⟨j + 1, by omega, by go_num, ?_, HB1.out.grown HG3.out (by have := HLE.out; omega) (fun q hq => by cases hq; exact hb0), (HG3.out.block _ (by omega) (by simp; omega)).trans HX1.out, by omega⟩
      rw [HSN.out, HF.out, ← List.append_assoc, HTK.out, ← Nat.add_assoc]
      exact HS3.out
     case measure => simp [intOf]; omega
    ·skip
     go_wp2_with fail
     refine (copy_set b0 b1 (n0 + Tr.sizes (c.take j)) c[j].size _ _ _ HS0.out HS1.out HNE.out HRM.out).mono ?_
     rintro e w3 ⟨rfl, hs3, hg3⟩
     have HS3 := Lib.hid hs3
     have HG3 := Lib.hid hg3
     clear hs3 hg3
     go_wp2_with fail
     go_roundw
     case rel =>
      have hsz3 := HG3.out.size
      refine ⟨j + 1, by omega, by go_num, ?_, HB1.out.grown HG3.out (by have := HLE.out; omega) (fun q hq => by cases hq; exact hb0), (HG3.out.block _ (by omega) (by simp; omega)).trans HX1.out, by omega⟩
      rw [HSN.out, HF.out, ← List.append_assoc, HTK.out, ← Nat.add_assoc]
      exact HS3.out
     case measure => simp [intOf]; omega
  ·obtain rfl : j = c.length := by omega
   go_wp2_with fail
   go_end0
   have h := HSET.out
   rw [List.take_length] at h
   exact ⟨rfl, h, hb⟩
end Go.Proofs.YtkkhjpkkjpcbmaaGreat
