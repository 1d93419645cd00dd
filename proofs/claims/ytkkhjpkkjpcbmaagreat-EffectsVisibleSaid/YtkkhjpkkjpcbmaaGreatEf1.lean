/- The effects' sets: the names of places. -/
import Derived.Test.YtkkhjpkkjpcbmaaGreatEs
import Derived.Test.YtkkhjpkkjpcbmaaGreatKinds
import Derived.Maps.RangeWalk
namespace Go.Proofs.YtkkhjpkkjpcbmaaGreat
open Go.RowKit Go.Maps Go.Shelf

def nmOf (t : Tr) : Nm := t.name.data.toList
def partsL (f : Nat → Tr → List Nm) : Nat → List Tr → List Nm
 | _, [] => []
 | i, t :: r => f i t ++ partsL f (i + 1) r
theorem partsL_append (f : Nat → Tr → List Nm) : ∀ (c d : List Tr) (i : Nat), partsL f i (c ++ d) = partsL f i c ++ partsL f (i + c.length) d
 | [], d, i => by simp [partsL]
 | t :: r, d, i => by
  simp only [List.cons_append, partsL, partsL_append f r d (i + 1), List.append_assoc, List.length_cons]
  rw [show i + 1 + r.length = i + (r.length + 1) from by omega]
theorem partsL_snoc (f : Nat → Tr → List Nm) (c : List Tr) (j : Nat) (h : j < c.length) : partsL f 0 (c.take (j + 1)) = partsL f 0 (c.take j) ++ f j c[j] := by
 rw [Tr.take_snoc c j h, partsL_append]
 simp only [partsL, List.append_nil, Nat.zero_add, List.length_take, Nat.min_eq_left (Nat.le_of_lt h)]
def isPl (t : Tr) : Bool := t.kind == 2 || t.kind == 3
def placeF (m : Int) (i : Nat) (t : Tr) : List Nm := if (i : Int) < m ∧ isPl t = true then [nmOf t] else []

theorem keyedS : Keyed Tryz.prog 9 := string_keyed Tryz.underlying9
abbrev SetW (w : World) (b n : Nat) (L : List Nm) : Prop := SetAt Tryz.prog 9 4 w b n L

theorem Rep.name_le {w : World} {B : Nat} {t : Tr} {v : Value} (h : Rep w B t v) : t.name.size ≤ 9223372036854775807 := by
 cases t with
 | mk k n s c => simp only [Rep] at h; obtain ⟨_, _, _, hf, _⟩ := h; exact hf.s1

set_option maxRecDepth 100000 in
set_option maxHeartbeats 1000000 in
theorem places_any (c : List Tr) (A : Option Addr) (cap : Nat) (m : Int) (b0 n0 B : Nat) (L0 : List Nm) (w : World) (hrow : RepRow w B c A 0) (hB : B ≤ w.heap.size) (hb0 : B ≤ b0) (_hl : c.length ≤ cap) (_hc : cap ≤ 9223372036854775807)
  (hn : n0 + c.length ≤ 1000000000) (hs : SetW w b0 n0 L0) :
  Calls Tryz.prog 53 #[.map (some b0), .slice A c.length cap, .int .i64 m] w fun e w' => e = .returned (.tuple #[]) ∧ SetW w' b0 (n0 + c.length) (L0 ++ partsL (placeF m) 0 c) ∧ Below B w w' := by
 have HROW := Lib.hid hrow
 have HS := Lib.hid hs
 clear hrow hs
 go_enter Tryz.func53, Tryz.ntmps53
 go_wp2_with fail
 go_loopw [10] (fun i wr => ∃ j : Nat, j ≤ c.length ∧ i = .int .i64 j ∧ SetW wr b0 (n0 + j) (L0 ++ partsL (placeF m) 0 (c.take j)) ∧ Below B w wr ∧ w.heap.size ≤ wr.heap.size) (fun i _ => c.length - (intOf i).toNat)
 case atStart => exact ⟨0, Nat.zero_le _, rfl, by simpa [partsL] using HS.out, Below.refl _ _, Nat.le_refl _⟩
 case round =>
  obtain ⟨j, hj, rfl, hset, hb, hsz⟩ := hrel
  have HSET := Lib.hid hset
  clear hset
  by_cases hlt : j < c.length
  ·obtain ⟨b, off, A', cap', rfl, hbB, h0, h1, h2, h3, hk⟩ := (HROW.out.below hb).kid j hlt
   have HSN := Lib.hid (partsL_snoc (placeF m) c j hlt)
   have hk1 : c[j].name.size ≤ 9223372036854775807 := Rep.name_le hk
   have hkey : keyOf Tryz.prog 9 (.string c[j].name) = some (.string c[j].name.data.toList) := Go.WideMaps.keyOf_string_mk Tryz.underlying9 (by unfold maxLen; exact hk1)
   clear hk
   obtain ⟨D, hown, hD⟩ := HSET.out
   have HD := Lib.hid hD
   have HNJ := Lib.hid (show n0 + j < maxLen by unfold maxLen; omega)
   have HOWN := Lib.hid hown
   clear hD hown
   have HLE := Lib.hid (show B ≤ wr.heap.size by omega)
   by_cases hm : (j : Int) < m
   ·by_cases h23 : (c[j].kind == 2 || c[j].kind == 3) = true
    ·have HF := Lib.hid (show placeF m j c[j] = [c[j].name.data.toList] from if_pos ⟨hm, h23⟩)
     have HC := Lib.hid h23
     have hcc := HC.out
     clear h23
     go_wp2_with (first
      | (at_mapUpdate; refine wpList_mapUpdate_own _ rfl _ _ _ 63 rfl 9 4 keyedS Tryz.underlying63 (plainElem Tryz.prog 4) b0 (n0 + j) D rfl (HOWN.out.alloc _) HNJ.out _ _ _ rfl rfl hkey _ [] (plainElem_bool Tryz.underlying4 true) ?_; intro w1 hown1 hgrow1))
     all_goals
      go_roundw
      case rel =>
       have hsz1 := hgrow1.size
       simp at hsz1
       refine ⟨j + 1, by omega, by go_num, ?_, (hb.alloc HLE.out _).grown hgrow1 (by simp; omega) (fun k hk => by cases hk; exact hb0), by omega⟩
       rw [HSN.out, HF.out, ← List.append_assoc]
       exact ⟨_, hown1, isSet_put HOWN.out.isMap HD.out _⟩
      case measure => simp [intOf]; omega
    ·have HF := Lib.hid (show placeF m j c[j] = [] from if_neg (fun q => h23 q.2))
     have hcc : (c[j].kind == 2 || c[j].kind == 3) = false := by simpa using h23
     have ⟨hc2, hc3⟩ := Bool.or_eq_false_iff.1 hcc
     clear h23 hcc
     go_wp2_with fail
     all_goals
      go_roundw
      case rel =>
       refine ⟨j + 1, by omega, by go_num, ?_, hb.alloc HLE.out _, by simp; omega⟩
       rw [HSN.out, HF.out, List.append_nil]
       exact ⟨D, (HOWN.out.alloc _).mono (by omega), HD.out⟩
      case measure => simp [intOf]; omega
   ·have HF := Lib.hid (show placeF m j c[j] = [] from if_neg (fun q => hm q.1))
    have hm' : m ≤ (j : Int) := by omega
    clear hm
    go_wp2_with fail
    all_goals
     go_roundw
     case rel =>
      refine ⟨j + 1, by omega, by go_num, ?_, hb.alloc HLE.out _, by simp; omega⟩
      rw [HSN.out, HF.out, List.append_nil]
      exact ⟨D, (HOWN.out.alloc _).mono (by omega), HD.out⟩
     case measure => simp [intOf]; omega
  ·obtain rfl : j = c.length := by omega
   go_wp2_with fail
   go_end0
   have h := HSET.out
   rw [List.take_length] at h
   exact ⟨rfl, h, hb⟩
end Go.Proofs.YtkkhjpkkjpcbmaaGreat
