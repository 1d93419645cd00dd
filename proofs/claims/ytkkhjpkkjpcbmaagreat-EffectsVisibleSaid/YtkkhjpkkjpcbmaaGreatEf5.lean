/- effects.Reads, effects.Writes: sorted lists of names. -/
import Derived.Test.YtkkhjpkkjpcbmaaGreatEf4
namespace Go.Proofs.YtkkhjpkkjpcbmaaGreat
open Go.RowKit Go.Maps Go.Shelf Go.Sort

theorem sortsS (m : Nat) : AnyZ.SortsIn Tryz.prog L_sortedS_ren Fence.wide m :=
 ⟨fun blk off cap ss W hH hblk hsz => callsIn_wide.2 (AnyM.slices_Sort_string L_sortS blk off cap ss W hH hblk hsz),
 fun p cap W => callsIn_wide.2 (AnyM.slices_Sort_string_none L_sortS p cap W)⟩
theorem keysS_in (mb : Option Nat) (W : World) : CallsIn Fence.wide 5 Tryz.prog 27 #[.map mb] W fun e w' => e = .returned (.func (.func 48) #[] #[.pointer (some ⟨W.heap.size, 0, none⟩)]) ∧ w' = W.alloc (.cells #[.map mb] 63) :=
 AnyZ.keys_in L_keysS Fence.wide 5 trivial rfl mb W
set_option maxHeartbeats 1000000 in
theorem sortedS_in {H : Type} (b nn : Nat) (D0 : DataW H) (R : Value → Option (DataW H × List MemPlace)) (w : World) (hown : w.ownsMap Tryz.prog 9 R b nn D0) (hmax : Maps.size D0 ≤ maxLen) (hbytes : Maps.size D0 * 16 ≤ 140737488355328) :
  CallsIn Fence.wide 5 Tryz.prog 26 #[.func (.func 48) #[] #[.pointer (some ⟨w.heap.size, 0, none⟩)]] (w.alloc (.cells #[.map (some b)] 63)) fun e w' => ∃ (v : Value) (ss : List (List UInt8)), e = .returned v ∧ ss.Perm (strKeys D0) ∧
   w'.ownsRow (w.alloc (.cells #[.map (some b)] 63)).heap.size 9 1 v ss.length ((ss.mergeSort (fun x y => decide (x ≤ y))).map encStr) ∧ (v = .slice none 0 0 ↔ ss = []) ∧ Below (w.alloc (.cells #[.map (some b)] 63)).heap.size (w.alloc (.cells #[.map (some b)] 63)) w' := by
 have hbl := hown.lt
 have hseq : SeqGives Fence.wide 2 Tryz.prog 48 #[.pointer (some ⟨w.heap.size, 0, none⟩)] encStr (fun ss => ss.Perm (strKeys D0)) (Maps.size D0) (w.alloc (.cells #[.map (some b)] 63)) :=
  AnyZ.keys_gives (ρ := L_keysS_ren) { L_keysS with } Fence.wide _ trivial rfl (by omega) w.heap.size b nn D0 _ (by simp) (by simp) (by
   obtain ⟨es, clock, hb, Ft, hs, hD⟩ := hown
   exact ⟨es, clock, (Below.heap_alloc _ _ b hbl).trans hb, Ft, hs, hD⟩)
 exact AnyZ.sorted_in L_sortedS Fence.wide 5 trivial trivial trivial trivial rfl (by omega) (sortsS _) (enters_of Tryz.func47 (by kernel_rfl) rfl) 48 #[.pointer (some ⟨w.heap.size, 0, none⟩)] trivial (enters_of Tryz.func48 (by kernel_rfl) rfl) _ _ hmax hbytes _ hseq

/-- each name once -/
def dd : List Nm → List Nm
 | [] => []
 | s :: r => if s ∈ r then dd r else s :: dd r
theorem mem_dd {s : Nm} : ∀ {L : List Nm}, s ∈ dd L ↔ s ∈ L
 | [] => by simp [dd]
 | x :: r => by
  unfold dd
  split
  ·rename_i h
   rw [mem_dd (L := r), List.mem_cons]
   exact ⟨fun q => .inr q, fun q => q.elim (fun e => e ▸ h) id⟩
  ·rw [List.mem_cons, List.mem_cons, mem_dd (L := r)]
theorem nodup_dd : ∀ L : List Nm, (dd L).Nodup
 | [] => List.nodup_nil
 | x :: r => by
  unfold dd
  split
  ·exact nodup_dd r
  ·rename_i h
   exact List.nodup_cons.2 ⟨fun q => h (mem_dd.1 q), nodup_dd r⟩
/-- a set's names in ascending order, each once -/
def sortN (L : List Nm) : List Nm := (dd L).mergeSort (fun x y => decide (x ≤ y))
theorem mem_sortN {L : List Nm} {s : Nm} : s ∈ sortN L ↔ s ∈ L := by
 unfold sortN
 rw [List.mem_mergeSort, mem_dd]
theorem keys_perm {D : DataW Unit} {L : List Nm} {w : World} {b n : Nat} (ho : w.ownsMap Tryz.prog 9 (plainElem Tryz.prog 4) b n D) (hD : IsSet D L) : (dd L).Perm (strKeys D) ∧ ∀ s ∈ L, s.length ≤ maxLen := by
 obtain ⟨es, rfl, hp, _⟩ := ho.entries keyedS
 obtain ⟨es', he, hk⟩ := ho.keysOf
 cases he
 have hks : ∀ p ∈ es, ∃ x : List UInt8, p.1 = .string x ∧ x.length ≤ maxLen := fun p hp => by
  obtain ⟨v, hv⟩ := hk p hp
  obtain ⟨x, _, hx, hl⟩ := Maps.keyOf_str Tryz.underlying9 hv
  exact ⟨x, hx, hl⟩
 refine ⟨perm_strKeys hp (fun p hp => let ⟨x, hx, _⟩ := hks p hp; ⟨x, hx⟩) (nodup_dd L) (fun x => ?_), fun s hs => ?_⟩
 ·rw [mem_dd, (hD x).1]; simp
 ·have h := (hD s).1
  rw [has_eq, decide_eq_true hs, List.any_eq_true] at h
  obtain ⟨p, hp, hq⟩ := h
  obtain ⟨x, hx, hl⟩ := hks p hp
  have := WideAt.sameKey_eq hq
  rw [hx] at this
  cases this
  exact hl

/-- what a call for a sorted list of names hands back -/
def ListPost (L : List Nm) (w : World) (e : Ending) (w' : World) : Prop := ∃ v, e = .returned v ∧ w'.ownsRow w.heap.size 9 1 v (sortN L).length ((sortN L).map encStr) ∧ (∀ s ∈ L, s.length ≤ maxLen) ∧ Below w.heap.size w w'

set_option maxHeartbeats 1000000 in
theorem Reads_any (t : Tr) (v : Value) (w : World) (hr : Rep w w.heap.size t v) (hsz : t.size ≤ 1000000) : Calls Tryz.prog 8 #[v] w (ListPost (readsT t) w) := by
 refine (callsIn_wide (n := 6)).1 ?_
 have hsz' := hsz
 generalize hL : readsT t = L
 cases t with
 | mk k n s c =>
 have hr' := hr
 simp only [Rep] at hr'
 obtain ⟨A, cap, rfl, hf, hrow⟩ := hr'
 have HR := Lib.hid (callsIn_wide (n := 5) |>.2 (reads_any _ _ _ (hr.alloc (Nat.le_refl _) (.cells #[.int .u8 k, .int .i64 n, .string s, .slice A c.length cap] 26)) hsz))
 generalize Tr.size (.mk k n s c) = z at hsz' HR
 clear hr hrow
 unfold nodeV at *
 have hfK : Fence.wide.fn 27 := trivial
 have hfS : Fence.wide.fn 26 := trivial
 have hfR : Fence.wide.fn 28 := trivial
 refine callsIn_of_wp Tryz.func8 rfl trivial ?_ rfl
 simp only [Tryz.ntmps8, List.size_toArray, List.length_cons, List.length_nil, Nat.reduceAdd, Nat.reduceSub, Array.replicate_succ, Array.replicate_zero, List.push_toArray, List.append_toArray, List.nil_append, List.cons_append]
 gi_wp2_with fail
 refine HR.out.mono ?_
 rintro e w1 ⟨b, rfl, hb1, ⟨D, ho, hD⟩, hbl⟩
 rw [hL] at hD
 have HB1 := Lib.hid (((Below.refl _ w).alloc (Nat.le_refl _) _).trans (hbl.mono (by simp)))
 have HO := Lib.hid ho
 have HD := Lib.hid hD
 have HMX := Lib.hid (show Maps.size D ≤ 1000000 from Nat.le_trans ho.size_le (by omega))
 clear hbl ho hD hb1
 gi_wp2_with (first
  | (gi_at_call 27; refine (keysS_in _ _).mono ?_; rintro e w' ⟨rfl, rfl⟩)
  | (gi_at_call 26; refine (sortedS_in b _ D (plainElem Tryz.prog 4) w1 HO.out (by have := HMX.out; unfold maxLen; omega) (by have := HMX.out; omega)).mono ?_; rintro e w' ⟨v, ss, rfl, hS, hrow, hnil, hb⟩))
 go_ret
 obtain ⟨hp, hlen⟩ := keys_perm HO.out HD.out
 have e1 : ss.mergeSort (fun x y => decide (x ≤ y)) = sortN L := mergeSort_of_perm (hS.trans hp.symm)
 have e2 : ss.length = (sortN L).length := by rw [← e1, List.length_mergeSort]
 rw [e1, e2] at hrow
 exact ⟨v, rfl, ownsRow_base_a hrow (by have := HB1.out.size; simp; omega), hlen, (HB1.out.alloc HB1.out.size _).trans (hb.mono (by have := HB1.out.size; simp; omega))⟩
set_option maxHeartbeats 1000000 in
theorem Writes_any (t : Tr) (v : Value) (w : World) (hr : Rep w w.heap.size t v) (hsz : t.size ≤ 1000000) : Calls Tryz.prog 14 #[v] w (ListPost (writesT t) w) := by
 refine (callsIn_wide (n := 6)).1 ?_
 have hsz' := hsz
 generalize hL : writesT t = L
 cases t with
 | mk k n s c =>
 have hr' := hr
 simp only [Rep] at hr'
 obtain ⟨A, cap, rfl, hf, hrow⟩ := hr'
 have HR := Lib.hid (callsIn_wide (n := 5) |>.2 (writes_any _ _ _ (hr.alloc (Nat.le_refl _) (.cells #[.int .u8 k, .int .i64 n, .string s, .slice A c.length cap] 26)) hsz))
 generalize Tr.size (.mk k n s c) = z at hsz' HR
 clear hr hrow
 unfold nodeV at *
 have hfK : Fence.wide.fn 27 := trivial
 have hfS : Fence.wide.fn 26 := trivial
 have hfR : Fence.wide.fn 34 := trivial
 refine callsIn_of_wp Tryz.func14 rfl trivial ?_ rfl
 simp only [Tryz.ntmps14, List.size_toArray, List.length_cons, List.length_nil, Nat.reduceAdd, Nat.reduceSub, Array.replicate_succ, Array.replicate_zero, List.push_toArray, List.append_toArray, List.nil_append, List.cons_append]
 gi_wp2_with fail
 refine HR.out.mono ?_
 rintro e w1 ⟨b, rfl, hb1, ⟨D, ho, hD⟩, hbl⟩
 rw [hL] at hD
 have HB1 := Lib.hid (((Below.refl _ w).alloc (Nat.le_refl _) _).trans (hbl.mono (by simp)))
 have HO := Lib.hid ho
 have HD := Lib.hid hD
 have HMX := Lib.hid (show Maps.size D ≤ 1000000 from Nat.le_trans ho.size_le (by omega))
 clear hbl ho hD hb1
 gi_wp2_with (first
  | (gi_at_call 27; refine (keysS_in _ _).mono ?_; rintro e w' ⟨rfl, rfl⟩)
  | (gi_at_call 26; refine (sortedS_in b _ D (plainElem Tryz.prog 4) w1 HO.out (by have := HMX.out; unfold maxLen; omega) (by have := HMX.out; omega)).mono ?_; rintro e w' ⟨v, ss, rfl, hS, hrow, hnil, hb⟩))
 go_ret
 obtain ⟨hp, hlen⟩ := keys_perm HO.out HD.out
 have e1 : ss.mergeSort (fun x y => decide (x ≤ y)) = sortN L := mergeSort_of_perm (hS.trans hp.symm)
 have e2 : ss.length = (sortN L).length := by rw [← e1, List.length_mergeSort]
 rw [e1, e2] at hrow
 exact ⟨v, rfl, ownsRow_base_a hrow (by have := HB1.out.size; simp; omega), hlen, (HB1.out.alloc HB1.out.size _).trans (hb.mono (by have := HB1.out.size; simp; omega))⟩
end Go.Proofs.YtkkhjpkkjpcbmaaGreat
