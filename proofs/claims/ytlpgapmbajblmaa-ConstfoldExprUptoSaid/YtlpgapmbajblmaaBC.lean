import Derived.Test.YtlpgapmbajblmaaKinds
import Derived.Test.YtlpgapmbajblmaaBB
import Derived.Test.YtlpgapmbajblmaaKinds2
import Derived.Test.YtlpgapmbajblmaaBA
/- Valid expressions: the walk of the reference. -/
namespace Go.Proofs.Ytlpgapmbajblmaa
open Go.RowKit Go.Shelf

theorem Rep.row {w : World} {B : Nat} {k n : Int} {s : ByteArray} {c : List Tr} {A : Option Addr} {cap len : Nat} (hr : Rep w B (.mk k n s c) (nodeV k n s A len cap)) : len = c.length ∧ Fits k n s c.length cap ∧ RepRow w B c A 0 := by
 simp only [Rep] at hr
 obtain ⟨A', cap', he, hf, hrow⟩ := hr
 simp only [nodeV, Value.agg.injEq, Array.mk.injEq, List.cons.injEq, Value.slice.injEq, true_and, and_true] at he
 obtain ⟨rfl, hl, rfl⟩ := he
 exact ⟨hl, hf, hrow⟩

set_option maxHeartbeats 400000 in
theorem rExpr_1 (n : Int) (s : ByteArray) (c : List Tr) (A : Option Addr) (cap : Nat) (w : World)
  (_hr : Rep w w.heap.size (.mk 1 n s c) (nodeV 1 n s A c.length cap)) :
  Calls Try.prog 20 #[nodeV 1 n s A c.length cap] w fun e w' => e = .returned (.bool (decide (0 ≤ n) && emptyB s && lenB c 0)) ∧ Below w.heap.size w w' := by
 unfold nodeV emptyB lenB
 clear _hr
 cases hn : decide (0 ≤ n)
 ·go_enter Try.func20, Try.ntmps20
  go_wp2_with fail
  go_ret
  exact ⟨by simp, (Below.refl _ _).alloc (Nat.le_refl _) _⟩
 ·cases hs : s.toList.isEmpty
  ·go_enter Try.func20, Try.ntmps20
   go_wp2_with fail
   go_ret
   exact ⟨by simp, (Below.refl _ _).alloc (Nat.le_refl _) _⟩
  ·go_enter Try.func20, Try.ntmps20
   go_wp2_with fail
   go_ret
   exact ⟨by simp, (Below.refl _ _).alloc (Nat.le_refl _) _⟩

set_option maxHeartbeats 400000 in
theorem rExpr_2 (n : Int) (s : ByteArray) (c : List Tr) (A : Option Addr) (cap : Nat) (w : World)
  (hr : Rep w w.heap.size (.mk 2 n s c) (nodeV 2 n s A c.length cap)) :
  Calls Try.prog 20 #[nodeV 2 n s A c.length cap] w fun e w' => e = .returned (.bool (namedB n s && lenB c 0)) ∧ Below w.heap.size w w' := by
 obtain ⟨_, hf, _⟩ := hr.row
 have hs1 := hf.s1
 unfold nodeV lenB namedB
 clear hr
 cases hn : (n == 0)
 ·go_enter Try.func20, Try.ntmps20
  go_wp2_with fail
  go_ret
  exact ⟨by simp, (Below.refl _ _).alloc (Nat.le_refl _) _⟩
 cases hnm : nameB s
 ·have H := Lib.hid hnm
  clear hnm
  go_enter Try.func20, Try.ntmps20
  go_wp2_with fail
  refine (rname_any s hs1 _).mono ?_
  rintro e w1 ⟨rfl, hb1⟩
  rw [H.out]
  have hb2 := ((Below.refl _ w).alloc (Nat.le_refl _) _).trans (hb1.mono (by simp))
  obtain ⟨x0, x1, x2, x3⟩ := box_at hb1
  have hb1s := hb1.size
  clear hb1
  go_wp2_with fail
  go_ret
  exact ⟨by simp, hb2⟩
 ·have H := Lib.hid hnm
  clear hnm
  go_enter Try.func20, Try.ntmps20
  go_wp2_with fail
  refine (rname_any s hs1 _).mono ?_
  rintro e w1 ⟨rfl, hb1⟩
  rw [H.out]
  have hb2 := ((Below.refl _ w).alloc (Nat.le_refl _) _).trans (hb1.mono (by simp))
  obtain ⟨x0, x1, x2, x3⟩ := box_at hb1
  have hb1s := hb1.size
  clear hb1
  go_wp2_with fail
  go_ret
  exact ⟨by simp, hb2⟩

set_option maxHeartbeats 400000 in
theorem rExpr_4 (n : Int) (s : ByteArray) (c : List Tr) (A : Option Addr) (cap : Nat) (w : World)
  (hr : Rep w w.heap.size (.mk 4 n s c) (nodeV 4 n s A c.length cap)) :
  Calls Try.prog 20 #[nodeV 4 n s A c.length cap] w fun e w' => e = .returned (.bool (namedB n s && lenB c 0)) ∧ Below w.heap.size w w' := by
 obtain ⟨_, hf, _⟩ := hr.row
 have hs1 := hf.s1
 unfold nodeV lenB namedB
 clear hr
 cases hn : (n == 0)
 ·go_enter Try.func20, Try.ntmps20
  go_wp2_with fail
  go_ret
  exact ⟨by simp, (Below.refl _ _).alloc (Nat.le_refl _) _⟩
 cases hnm : nameB s
 ·have H := Lib.hid hnm
  clear hnm
  go_enter Try.func20, Try.ntmps20
  go_wp2_with fail
  refine (rname_any s hs1 _).mono ?_
  rintro e w1 ⟨rfl, hb1⟩
  rw [H.out]
  have hb2 := ((Below.refl _ w).alloc (Nat.le_refl _) _).trans (hb1.mono (by simp))
  obtain ⟨x0, x1, x2, x3⟩ := box_at hb1
  have hb1s := hb1.size
  clear hb1
  go_wp2_with fail
  go_ret
  exact ⟨by simp, hb2⟩
 ·have H := Lib.hid hnm
  clear hnm
  go_enter Try.func20, Try.ntmps20
  go_wp2_with fail
  refine (rname_any s hs1 _).mono ?_
  rintro e w1 ⟨rfl, hb1⟩
  rw [H.out]
  have hb2 := ((Below.refl _ w).alloc (Nat.le_refl _) _).trans (hb1.mono (by simp))
  obtain ⟨x0, x1, x2, x3⟩ := box_at hb1
  have hb1s := hb1.size
  clear hb1
  go_wp2_with fail
  go_ret
  exact ⟨by simp, hb2⟩

set_option maxHeartbeats 400000 in
theorem rExpr_5 (n : Int) (s : ByteArray) (c : List Tr) (A : Option Addr) (cap : Nat) (w : World)
  (hr : Rep w w.heap.size (.mk 5 n s c) (nodeV 5 n s A c.length cap)) :
  Calls Try.prog 20 #[nodeV 5 n s A c.length cap] w fun e w' => e = .returned (.bool (namedB n s && lenB c 0)) ∧ Below w.heap.size w w' := by
 obtain ⟨_, hf, _⟩ := hr.row
 have hs1 := hf.s1
 unfold nodeV lenB namedB
 clear hr
 cases hn : (n == 0)
 ·go_enter Try.func20, Try.ntmps20
  go_wp2_with fail
  go_ret
  exact ⟨by simp, (Below.refl _ _).alloc (Nat.le_refl _) _⟩
 cases hnm : nameB s
 ·have H := Lib.hid hnm
  clear hnm
  go_enter Try.func20, Try.ntmps20
  go_wp2_with fail
  refine (rname_any s hs1 _).mono ?_
  rintro e w1 ⟨rfl, hb1⟩
  rw [H.out]
  have hb2 := ((Below.refl _ w).alloc (Nat.le_refl _) _).trans (hb1.mono (by simp))
  obtain ⟨x0, x1, x2, x3⟩ := box_at hb1
  have hb1s := hb1.size
  clear hb1
  go_wp2_with fail
  go_ret
  exact ⟨by simp, hb2⟩
 ·have H := Lib.hid hnm
  clear hnm
  go_enter Try.func20, Try.ntmps20
  go_wp2_with fail
  refine (rname_any s hs1 _).mono ?_
  rintro e w1 ⟨rfl, hb1⟩
  rw [H.out]
  have hb2 := ((Below.refl _ w).alloc (Nat.le_refl _) _).trans (hb1.mono (by simp))
  obtain ⟨x0, x1, x2, x3⟩ := box_at hb1
  have hb1s := hb1.size
  clear hb1
  go_wp2_with fail
  go_ret
  exact ⟨by simp, hb2⟩

set_option maxHeartbeats 800000 in
theorem rExpr_3 (n : Int) (s : ByteArray) (c : List Tr) (A : Option Addr) (cap : Nat) (w : World) (ih : ∀ t, t ∈ c → Tests 20 exprB t)
  (hr : Rep w w.heap.size (.mk 3 n s c) (nodeV 3 n s A c.length cap)) :
  Calls Try.prog 20 #[nodeV 3 n s A c.length cap] w fun e w' => e = .returned (.bool (namedB n s && lenB c 1 && c.all exprB)) ∧ Below w.heap.size w w' := by
 obtain ⟨_, hf, hrow⟩ := hr.row
 have hs1 := hf.s1
 have HROW := Lib.hid hrow
 have HI := Lib.hid ih
 unfold nodeV lenB namedB
 clear hr hrow ih
 cases hn : (n == 0)
 ·go_enter Try.func20, Try.ntmps20
  go_wp2_with fail
  go_ret
  exact ⟨by simp, (Below.refl _ _).alloc (Nat.le_refl _) _⟩
 cases hnm : nameB s
 ·have H := Lib.hid hnm
  clear hnm
  go_enter Try.func20, Try.ntmps20
  go_wp2_with fail
  refine (rname_any s hs1 _).mono ?_
  rintro e w1 ⟨rfl, hb1⟩
  rw [H.out]
  have hb2 := ((Below.refl _ w).alloc (Nat.le_refl _) _).trans (hb1.mono (by simp))
  obtain ⟨x0, x1, x2, x3⟩ := box_at hb1
  have hb1s := hb1.size
  clear hb1
  go_wp2_with fail
  go_ret
  exact ⟨by simp, hb2⟩
 have H := Lib.hid hnm
 clear hnm
 cases hl : ((c.length : Int) == 1)
 ·go_enter Try.func20, Try.ntmps20
  go_wp2_with fail
  refine (rname_any s hs1 _).mono ?_
  rintro e w1 ⟨rfl, hb1⟩
  rw [H.out]
  have hb2 := ((Below.refl _ w).alloc (Nat.le_refl _) _).trans (hb1.mono (by simp))
  obtain ⟨x0, x1, x2, x3⟩ := box_at hb1
  have hb1s := hb1.size
  clear hb1
  go_wp2_with fail
  go_ret
  exact ⟨by simp, hb2⟩
 ·have hlen : c.length = 1 := by have hh := hl; simp at hh; omega
  have h0 : 0 < c.length := by omega
  obtain ⟨b, off, A', cap', rfl, hbB, g0, g1, g2, g3, hk⟩ := HROW.out.kid 0 h0
  have hmem : c[0] ∈ c := List.getElem_mem h0
  have HALL := Lib.hid (show c.all exprB = exprB c[0] by
   match c, hlen with
   | [t], _ => simp)
  have HK := Lib.hid hk
  simp only [Nat.zero_mul, Nat.add_zero] at g0 g1 g2 g3
  clear hlen hk
  go_enter Try.func20, Try.ntmps20
  go_wp2_with fail
  refine (rname_any s hs1 _).mono ?_
  rintro e w1 ⟨rfl, hb1⟩
  rw [H.out]
  have hb2 := ((Below.refl _ w).alloc (Nat.le_refl _) _).trans (hb1.mono (by simp))
  obtain ⟨x0, x1, x2, x3⟩ := box_at hb1
  have hb1s := hb1.size
  clear hb1
  have y0 := (hb2.cell (p := ⟨b, off, none⟩) hbB).trans g0
  have y1 := (hb2.cell (p := ⟨b, off + 1, none⟩) hbB).trans g1
  have y2 := (hb2.cell (p := ⟨b, off + 2, none⟩) hbB).trans g2
  have y3 := (hb2.cell (p := ⟨b, off + 3, none⟩) hbB).trans g3
  clear g0 g1 g2 g3
  go_wp2_with fail
  refine (HI.out _ hmem _ _ (HK.out.at_ (Nat.le_refl _) hb2)).mono ?_
  rintro e w2 ⟨rfl, hb3⟩
  have hb4 := hb2.trans (hb3.mono hb2.size)
  clear hb3
  go_wp2_with fail
  go_ret
  exact ⟨by rw [HALL.out]; simp, hb4⟩

set_option maxHeartbeats 1600000 in
theorem rExpr_6 (n : Int) (s : ByteArray) (c : List Tr) (A : Option Addr) (cap : Nat) (w : World) (ih : ∀ t, t ∈ c → Tests 20 exprB t)
  (hr : Rep w w.heap.size (.mk 6 n s c) (nodeV 6 n s A c.length cap)) :
  Calls Try.prog 20 #[nodeV 6 n s A c.length cap] w fun e w' => e = .returned (.bool (plainB n s && lenB c 1 && c.all exprB)) ∧ Below w.heap.size w w' := by
 obtain ⟨_, hf, hrow⟩ := hr.row
 have hl1 := hf.l1
 have hl2 := hf.c1
 have HROW := Lib.hid hrow
 have HI := Lib.hid ih
 unfold nodeV lenB plainB emptyB
 clear hr hrow ih
 cases hn : (n == 0)
 ·have hn' : (n != 0) = true := by simp [bne, hn]
  go_enter Try.func20, Try.ntmps20
  go_wp2_with fail
  go_ret
  exact ⟨by simp, (Below.refl _ _).alloc (Nat.le_refl _) _⟩
 have hn' : (n != 0) = false := by simp [bne, hn]
 cases hs : s.toList.isEmpty
 ·go_enter Try.func20, Try.ntmps20
  go_wp2_with fail
  go_ret
  exact ⟨by simp, (Below.refl _ _).alloc (Nat.le_refl _) _⟩
 cases hl : ((c.length : Int) == 1)
 ·have hl' : ((c.length : Int) != 1) = true := by simp [bne, hl]
  go_enter Try.func20, Try.ntmps20
  go_wp2_with fail
  go_ret
  exact ⟨by simp, (Below.refl _ _).alloc (Nat.le_refl _) _⟩
 have hl' : ((c.length : Int) != 1) = false := by simp [bne, hl]
 have hlen : c.length = 1 := by have hh := hl; simp at hh; omega
 have hle1 : c.length ≤ 1 := by omega
 have hle2 : 1 ≤ c.length := by omega
 have HL := Lib.hid hlen
 clear hlen
 go_enter Try.func20, Try.ntmps20
 go_wp2_with fail
 go_loopw [4] (fun i wr => ∃ j : Nat, j ≤ 1 ∧ i = .int .i64 j ∧ Hid ((c.take j).all exprB = true) ∧ Below (w.heap.size + 1) (w.alloc (.cells #[.int .u8 6, .int .i64 n, .string s, .slice A c.length cap] 24)) wr) (fun i _ => 1 - (intOf i).toNat)
 case atStart => exact ⟨0, Nat.zero_le _, rfl, by simp [Hid], Below.refl _ _⟩
 case round =>
  obtain ⟨i, hi, rfl, hall, hbw⟩ := hrel
  have hbb : Below w.heap.size w wr := ((Below.refl _ _).alloc (Nat.le_refl _) _).trans (hbw.mono (by omega))
  by_cases hlt : i < 1
  ·have hlt' : i < c.length := by omega
   obtain ⟨b, off, A', cap', rfl, hbB, h0, h1, h2, h3, hk⟩ := (HROW.out.below hbb).kid i hlt'
   have hmem : c[i] ∈ c := List.getElem_mem hlt'
   have hws := hbb.size
   obtain ⟨x0, x1, x2, x3⟩ := box_at (by simpa using hbw)
   have HT := Lib.hid (show (c.take (i + 1)).all exprB = ((c.take i).all exprB && exprB c[i]) by rw [Tr.take_snoc c i hlt', List.all_append]; simp)
   cases hp : exprB c[i]
   ·have HP := Lib.hid hp
    clear hp
    go_wp2_with fail
    refine (HI.out _ hmem _ _ (hk.more hws)).mono ?_
    rw [HP.out]
    rintro e w1 ⟨rfl, hb1⟩
    have hb2 := hbb.trans (hb1.mono hws)
    clear hb1
    go_wp2_with fail
    go_ret
    have hf : c.all exprB = false := by
     rw [List.all_eq_false]
     exact ⟨_, hmem, by rw [HP.out]; simp⟩
    exact ⟨by simp [hf], hb2⟩
   ·have HP := Lib.hid hp
    clear hp
    go_wp2_with fail
    refine (HI.out _ hmem _ _ (hk.more hws)).mono ?_
    rw [HP.out]
    rintro e w1 ⟨rfl, hb1⟩
    have hb2 := hbw.trans (hb1.mono (by have := hbw.size; simp at this; omega))
    clear hb1
    go_wp2_with fail
    go_roundw
    case rel => exact ⟨i + 1, by omega, by go_num, by rw [Hid, HT.out, hall.out, HP.out]; rfl, hb2⟩
    case measure => simp [intOf]; omega
  ·obtain rfl : i = 1 := by omega
   go_wp2_with fail
   go_ret
   have h := hall.out
   rw [← HL.out, List.take_length] at h
   exact ⟨by simp [h], hbb⟩

set_option maxHeartbeats 1600000 in
theorem rExpr_7 (n : Int) (s : ByteArray) (c : List Tr) (A : Option Addr) (cap : Nat) (w : World) (ih : ∀ t, t ∈ c → Tests 20 exprB t)
  (hr : Rep w w.heap.size (.mk 7 n s c) (nodeV 7 n s A c.length cap)) :
  Calls Try.prog 20 #[nodeV 7 n s A c.length cap] w fun e w' => e = .returned (.bool (plainB n s && lenB c 1 && c.all exprB)) ∧ Below w.heap.size w w' := by
 obtain ⟨_, hf, hrow⟩ := hr.row
 have hl1 := hf.l1
 have hl2 := hf.c1
 have HROW := Lib.hid hrow
 have HI := Lib.hid ih
 unfold nodeV lenB plainB emptyB
 clear hr hrow ih
 cases hn : (n == 0)
 ·have hn' : (n != 0) = true := by simp [bne, hn]
  go_enter Try.func20, Try.ntmps20
  go_wp2_with fail
  go_ret
  exact ⟨by simp, (Below.refl _ _).alloc (Nat.le_refl _) _⟩
 have hn' : (n != 0) = false := by simp [bne, hn]
 cases hs : s.toList.isEmpty
 ·go_enter Try.func20, Try.ntmps20
  go_wp2_with fail
  go_ret
  exact ⟨by simp, (Below.refl _ _).alloc (Nat.le_refl _) _⟩
 cases hl : ((c.length : Int) == 1)
 ·have hl' : ((c.length : Int) != 1) = true := by simp [bne, hl]
  go_enter Try.func20, Try.ntmps20
  go_wp2_with fail
  go_ret
  exact ⟨by simp, (Below.refl _ _).alloc (Nat.le_refl _) _⟩
 have hl' : ((c.length : Int) != 1) = false := by simp [bne, hl]
 have hlen : c.length = 1 := by have hh := hl; simp at hh; omega
 have hle1 : c.length ≤ 1 := by omega
 have hle2 : 1 ≤ c.length := by omega
 have HL := Lib.hid hlen
 clear hlen
 go_enter Try.func20, Try.ntmps20
 go_wp2_with fail
 go_loopw [4] (fun i wr => ∃ j : Nat, j ≤ 1 ∧ i = .int .i64 j ∧ Hid ((c.take j).all exprB = true) ∧ Below (w.heap.size + 1) (w.alloc (.cells #[.int .u8 7, .int .i64 n, .string s, .slice A c.length cap] 24)) wr) (fun i _ => 1 - (intOf i).toNat)
 case atStart => exact ⟨0, Nat.zero_le _, rfl, by simp [Hid], Below.refl _ _⟩
 case round =>
  obtain ⟨i, hi, rfl, hall, hbw⟩ := hrel
  have hbb : Below w.heap.size w wr := ((Below.refl _ _).alloc (Nat.le_refl _) _).trans (hbw.mono (by omega))
  by_cases hlt : i < 1
  ·have hlt' : i < c.length := by omega
   obtain ⟨b, off, A', cap', rfl, hbB, h0, h1, h2, h3, hk⟩ := (HROW.out.below hbb).kid i hlt'
   have hmem : c[i] ∈ c := List.getElem_mem hlt'
   have hws := hbb.size
   obtain ⟨x0, x1, x2, x3⟩ := box_at (by simpa using hbw)
   have HT := Lib.hid (show (c.take (i + 1)).all exprB = ((c.take i).all exprB && exprB c[i]) by rw [Tr.take_snoc c i hlt', List.all_append]; simp)
   cases hp : exprB c[i]
   ·have HP := Lib.hid hp
    clear hp
    go_wp2_with fail
    refine (HI.out _ hmem _ _ (hk.more hws)).mono ?_
    rw [HP.out]
    rintro e w1 ⟨rfl, hb1⟩
    have hb2 := hbb.trans (hb1.mono hws)
    clear hb1
    go_wp2_with fail
    go_ret
    have hf : c.all exprB = false := by
     rw [List.all_eq_false]
     exact ⟨_, hmem, by rw [HP.out]; simp⟩
    exact ⟨by simp [hf], hb2⟩
   ·have HP := Lib.hid hp
    clear hp
    go_wp2_with fail
    refine (HI.out _ hmem _ _ (hk.more hws)).mono ?_
    rw [HP.out]
    rintro e w1 ⟨rfl, hb1⟩
    have hb2 := hbw.trans (hb1.mono (by have := hbw.size; simp at this; omega))
    clear hb1
    go_wp2_with fail
    go_roundw
    case rel => exact ⟨i + 1, by omega, by go_num, by rw [Hid, HT.out, hall.out, HP.out]; rfl, hb2⟩
    case measure => simp [intOf]; omega
  ·obtain rfl : i = 1 := by omega
   go_wp2_with fail
   go_ret
   have h := hall.out
   rw [← HL.out, List.take_length] at h
   exact ⟨by simp [h], hbb⟩

set_option maxHeartbeats 1600000 in
theorem rExpr_8 (k : Int) (n : Int) (s : ByteArray) (c : List Tr) (A : Option Addr) (cap : Nat) (w : World) (h8 : 8 ≤ k) (h23 : k ≤ 23) (e1 : (k == 1) = false) (e2 : (k == 2) = false) (e3 : (k == 3) = false) (e4 : (k == 4) = false) (e5 : (k == 5) = false) (e6 : (k == 6) = false) (e7 : (k == 7) = false) (ih : ∀ t, t ∈ c → Tests 20 exprB t)
  (hr : Rep w w.heap.size (.mk k n s c) (nodeV k n s A c.length cap)) :
  Calls Try.prog 20 #[nodeV k n s A c.length cap] w fun e w' => e = .returned (.bool (plainB n s && lenB c 2 && c.all exprB)) ∧ Below w.heap.size w w' := by
 obtain ⟨_, hf, hrow⟩ := hr.row
 have hl1 := hf.l1
 have hl2 := hf.c1
 have HROW := Lib.hid hrow
 have HI := Lib.hid ih
 unfold nodeV lenB plainB emptyB
 clear hr hrow ih
 cases hn : (n == 0)
 ·have hn' : (n != 0) = true := by simp [bne, hn]
  go_enter Try.func20, Try.ntmps20
  go_wp2_with fail
  go_ret
  exact ⟨by simp, (Below.refl _ _).alloc (Nat.le_refl _) _⟩
 have hn' : (n != 0) = false := by simp [bne, hn]
 cases hs : s.toList.isEmpty
 ·go_enter Try.func20, Try.ntmps20
  go_wp2_with fail
  go_ret
  exact ⟨by simp, (Below.refl _ _).alloc (Nat.le_refl _) _⟩
 cases hl : ((c.length : Int) == 2)
 ·have hl' : ((c.length : Int) != 2) = true := by simp [bne, hl]
  go_enter Try.func20, Try.ntmps20
  go_wp2_with fail
  go_ret
  exact ⟨by simp, (Below.refl _ _).alloc (Nat.le_refl _) _⟩
 have hl' : ((c.length : Int) != 2) = false := by simp [bne, hl]
 have hlen : c.length = 2 := by have hh := hl; simp at hh; omega
 have hle1 : c.length ≤ 2 := by omega
 have hle2 : 2 ≤ c.length := by omega
 have HL := Lib.hid hlen
 clear hlen
 go_enter Try.func20, Try.ntmps20
 go_wp2_with fail
 go_loopw [4] (fun i wr => ∃ j : Nat, j ≤ 2 ∧ i = .int .i64 j ∧ Hid ((c.take j).all exprB = true) ∧ Below (w.heap.size + 1) (w.alloc (.cells #[.int .u8 k, .int .i64 n, .string s, .slice A c.length cap] 24)) wr) (fun i _ => 2 - (intOf i).toNat)
 case atStart => exact ⟨0, Nat.zero_le _, rfl, by simp [Hid], Below.refl _ _⟩
 case round =>
  obtain ⟨i, hi, rfl, hall, hbw⟩ := hrel
  have hbb : Below w.heap.size w wr := ((Below.refl _ _).alloc (Nat.le_refl _) _).trans (hbw.mono (by omega))
  by_cases hlt : i < 2
  ·have hlt' : i < c.length := by omega
   obtain ⟨b, off, A', cap', rfl, hbB, h0, h1, h2, h3, hk⟩ := (HROW.out.below hbb).kid i hlt'
   have hmem : c[i] ∈ c := List.getElem_mem hlt'
   have hws := hbb.size
   obtain ⟨x0, x1, x2, x3⟩ := box_at (by simpa using hbw)
   have HT := Lib.hid (show (c.take (i + 1)).all exprB = ((c.take i).all exprB && exprB c[i]) by rw [Tr.take_snoc c i hlt', List.all_append]; simp)
   cases hp : exprB c[i]
   ·have HP := Lib.hid hp
    clear hp
    go_wp2_with fail
    refine (HI.out _ hmem _ _ (hk.more hws)).mono ?_
    rw [HP.out]
    rintro e w1 ⟨rfl, hb1⟩
    have hb2 := hbb.trans (hb1.mono hws)
    clear hb1
    go_wp2_with fail
    go_ret
    have hf : c.all exprB = false := by
     rw [List.all_eq_false]
     exact ⟨_, hmem, by rw [HP.out]; simp⟩
    exact ⟨by simp [hf], hb2⟩
   ·have HP := Lib.hid hp
    clear hp
    go_wp2_with fail
    refine (HI.out _ hmem _ _ (hk.more hws)).mono ?_
    rw [HP.out]
    rintro e w1 ⟨rfl, hb1⟩
    have hb2 := hbw.trans (hb1.mono (by have := hbw.size; simp at this; omega))
    clear hb1
    go_wp2_with fail
    go_roundw
    case rel => exact ⟨i + 1, by omega, by go_num, by rw [Hid, HT.out, hall.out, HP.out]; rfl, hb2⟩
    case measure => simp [intOf]; omega
  ·obtain rfl : i = 2 := by omega
   go_wp2_with fail
   go_ret
   have h := hall.out
   rw [← HL.out, List.take_length] at h
   exact ⟨by simp [h], hbb⟩

set_option maxHeartbeats 400000 in
theorem rExpr_other (k : Int) (n : Int) (s : ByteArray) (c : List Tr) (A : Option Addr) (cap : Nat) (w : World) (e1 : (k == 1) = false) (e2 : (k == 2) = false) (e3 : (k == 3) = false) (e4 : (k == 4) = false) (e5 : (k == 5) = false) (e6 : (k == 6) = false) (e7 : (k == 7) = false) (hk : 23 < k ∨ k < 8)
  (_hr : Rep w w.heap.size (.mk k n s c) (nodeV k n s A c.length cap)) :
  Calls Try.prog 20 #[nodeV k n s A c.length cap] w fun e w' => e = .returned (.bool (false)) ∧ Below w.heap.size w w' := by
 unfold nodeV
 clear _hr
 rcases hk with hk | hk
 ·go_enter Try.func20, Try.ntmps20
  go_wp2_with fail
  go_ret
  exact ⟨rfl, (Below.refl _ _).alloc (Nat.le_refl _) _⟩
 ·go_enter Try.func20, Try.ntmps20
  go_wp2_with fail
  go_ret
  exact ⟨rfl, (Below.refl _ _).alloc (Nat.le_refl _) _⟩

theorem rExpr_any (t : Tr) : Tests 20 exprB t := by
 induction t using Tr.ind with
 | h k n s c ih =>
 intro v w hr
 have hr' := hr
 simp only [Rep] at hr'
 obtain ⟨A, cap, rfl, hf, _⟩ := hr'
 by_cases h1 : k = 1
 ·subst h1; simpa [exprB] using rExpr_1 n s c A cap w hr
 by_cases h2 : k = 2
 ·subst h2; simpa [exprB] using rExpr_2 n s c A cap w hr
 by_cases h3 : k = 3
 ·subst h3; simpa [exprB, exprsB_all] using rExpr_3 n s c A cap w ih hr
 by_cases h4 : k = 4
 ·subst h4; simpa [exprB] using rExpr_4 n s c A cap w hr
 by_cases h5 : k = 5
 ·subst h5; simpa [exprB] using rExpr_5 n s c A cap w hr
 by_cases h6 : k = 6
 ·subst h6; simpa [exprB, exprsB_all] using rExpr_6 n s c A cap w ih hr
 by_cases h7 : k = 7
 ·subst h7; simpa [exprB, exprsB_all] using rExpr_7 n s c A cap w ih hr
 by_cases h8 : 8 ≤ k ∧ k ≤ 23
 ·simpa [exprB, h1, h2, h3, h4, h5, h6, h7, h8, exprsB_all] using rExpr_8 k n s c A cap w h8.1 h8.2 (by simp [h1]) (by simp [h2]) (by simp [h3]) (by simp [h4]) (by simp [h5]) (by simp [h6]) (by simp [h7]) ih hr
 ·simpa [exprB, h1, h2, h3, h4, h5, h6, h7, h8] using rExpr_other k n s c A cap w (by simp [h1]) (by simp [h2]) (by simp [h3]) (by simp [h4]) (by simp [h5]) (by simp [h6]) (by simp [h7]) (by omega) hr

end Go.Proofs.Ytlpgapmbajblmaa

/- Valid statements and blocks: the walks of the reference. -/
namespace Go.Proofs.Ytlpgapmbajblmaa
open Go.RowKit Go.Shelf

set_option maxHeartbeats 400000 in
theorem rPlace_any (t : Tr) : Tests 109 placeB t := by
 cases t with
 | mk k n s c =>
 intro v w hr
 have hr' := hr
 simp only [Rep] at hr'
 obtain ⟨A, cap, rfl, hf, _⟩ := hr'
 have HX := Lib.hid (rExpr_any _ _ _ (hr.alloc (Nat.le_refl _) (.cells #[.int .u8 k, .int .i64 n, .string s, .slice A c.length cap] 24)))
 clear hr
 unfold nodeV at *
 cases he : exprB (.mk k n s c)
 ·have H := Lib.hid he
  clear he
  go_enter Try.func109, Try.ntmps109
  go_wp2_with fail
  refine HX.out.mono ?_
  rw [H.out]
  rintro e w1 ⟨rfl, hb1⟩
  have hb2 := ((Below.refl _ w).alloc (Nat.le_refl _) _).trans (hb1.mono (by simp))
  clear hb1
  go_wp2_with fail
  go_ret
  exact ⟨by simp [placeB, H.out], hb2⟩
 ·have H := Lib.hid he
  clear he
  cases h2 : (k == 2)
  all_goals
   go_enter Try.func109, Try.ntmps109
   go_wp2_with fail
   refine HX.out.mono ?_
   rw [H.out]
   rintro e w1 ⟨rfl, hb1⟩
   have hb2 := ((Below.refl _ w).alloc (Nat.le_refl _) _).trans (hb1.mono (by simp))
   obtain ⟨x0, x1, x2, x3⟩ := box_at hb1
   clear hb1
   go_wp2_with fail
   go_ret
   exact ⟨by simp [placeB, H.out, Tr.kind, h2], hb2⟩

theorem shape_40 (n : Int) (s : ByteArray) (c : List Tr) (A : Option Addr) (cap : Nat) (w : World) :
  Calls Try.prog 108 #[nodeV 40 n s A c.length cap] w fun e w' => e = .returned (.tuple #[.string ⟨#[112, 101]⟩, .bool false, .bool true]) ∧ Below w.heap.size w w' := by
 unfold nodeV
 go_enter Try.func108, Try.ntmps108
 go_wp2_with fail
 go_ret3
 exact ⟨rfl, (Below.refl _ _).alloc (Nat.le_refl _) _⟩

theorem shape_41 (n : Int) (s : ByteArray) (c : List Tr) (A : Option Addr) (cap : Nat) (w : World) :
  Calls Try.prog 108 #[nodeV 41 n s A c.length cap] w fun e w' => e = .returned (.tuple #[.string ⟨#[112, 101]⟩, .bool false, .bool true]) ∧ Below w.heap.size w w' := by
 unfold nodeV
 go_enter Try.func108, Try.ntmps108
 go_wp2_with fail
 go_ret3
 exact ⟨rfl, (Below.refl _ _).alloc (Nat.le_refl _) _⟩

theorem shape_42 (n : Int) (s : ByteArray) (c : List Tr) (A : Option Addr) (cap : Nat) (w : World) :
  Calls Try.prog 108 #[nodeV 42 n s A c.length cap] w fun e w' => e = .returned (.tuple #[.string ⟨#[112, 101]⟩, .bool false, .bool true]) ∧ Below w.heap.size w w' := by
 unfold nodeV
 go_enter Try.func108, Try.ntmps108
 go_wp2_with fail
 go_ret3
 exact ⟨rfl, (Below.refl _ _).alloc (Nat.le_refl _) _⟩

theorem shape_56 (n : Int) (s : ByteArray) (c : List Tr) (A : Option Addr) (cap : Nat) (w : World) :
  Calls Try.prog 108 #[nodeV 56 n s A c.length cap] w fun e w' => e = .returned (.tuple #[.string ⟨#[112, 101]⟩, .bool false, .bool true]) ∧ Below w.heap.size w w' := by
 unfold nodeV
 go_enter Try.func108, Try.ntmps108
 go_wp2_with fail
 go_ret3
 exact ⟨rfl, (Below.refl _ _).alloc (Nat.le_refl _) _⟩

theorem shape_43 (n : Int) (s : ByteArray) (c : List Tr) (A : Option Addr) (cap : Nat) (w : World) :
  Calls Try.prog 108 #[nodeV 43 n s A c.length cap] w fun e w' => e = .returned (.tuple #[.string ⟨#[112, 112]⟩, .bool false, .bool true]) ∧ Below w.heap.size w w' := by
 unfold nodeV
 go_enter Try.func108, Try.ntmps108
 go_wp2_with fail
 go_ret3
 exact ⟨rfl, (Below.refl _ _).alloc (Nat.le_refl _) _⟩

theorem shape_44 (n : Int) (s : ByteArray) (c : List Tr) (A : Option Addr) (cap : Nat) (w : World) :
  Calls Try.prog 108 #[nodeV 44 n s A c.length cap] w fun e w' => e = .returned (.tuple #[.string ⟨#[112]⟩, .bool true, .bool true]) ∧ Below w.heap.size w w' := by
 unfold nodeV
 go_enter Try.func108, Try.ntmps108
 go_wp2_with fail
 go_ret3
 exact ⟨rfl, (Below.refl _ _).alloc (Nat.le_refl _) _⟩

theorem shape_45 (n : Int) (s : ByteArray) (c : List Tr) (A : Option Addr) (cap : Nat) (w : World) :
  Calls Try.prog 108 #[nodeV 45 n s A c.length cap] w fun e w' => e = .returned (.tuple #[.string ⟨#[112]⟩, .bool true, .bool true]) ∧ Below w.heap.size w w' := by
 unfold nodeV
 go_enter Try.func108, Try.ntmps108
 go_wp2_with fail
 go_ret3
 exact ⟨rfl, (Below.refl _ _).alloc (Nat.le_refl _) _⟩

theorem shape_46 (n : Int) (s : ByteArray) (c : List Tr) (A : Option Addr) (cap : Nat) (w : World) :
  Calls Try.prog 108 #[nodeV 46 n s A c.length cap] w fun e w' => e = .returned (.tuple #[.string ⟨#[112]⟩, .bool false, .bool true]) ∧ Below w.heap.size w w' := by
 unfold nodeV
 go_enter Try.func108, Try.ntmps108
 go_wp2_with fail
 go_ret3
 exact ⟨rfl, (Below.refl _ _).alloc (Nat.le_refl _) _⟩

theorem shape_47 (n : Int) (s : ByteArray) (c : List Tr) (A : Option Addr) (cap : Nat) (w : World) :
  Calls Try.prog 108 #[nodeV 47 n s A c.length cap] w fun e w' => e = .returned (.tuple #[.string ⟨#[112]⟩, .bool false, .bool true]) ∧ Below w.heap.size w w' := by
 unfold nodeV
 go_enter Try.func108, Try.ntmps108
 go_wp2_with fail
 go_ret3
 exact ⟨rfl, (Below.refl _ _).alloc (Nat.le_refl _) _⟩

theorem shape_48 (n : Int) (s : ByteArray) (c : List Tr) (A : Option Addr) (cap : Nat) (w : World) :
  Calls Try.prog 108 #[nodeV 48 n s A c.length cap] w fun e w' => e = .returned (.tuple #[.string ⟨#[112]⟩, .bool false, .bool true]) ∧ Below w.heap.size w w' := by
 unfold nodeV
 go_enter Try.func108, Try.ntmps108
 go_wp2_with fail
 go_ret3
 exact ⟨rfl, (Below.refl _ _).alloc (Nat.le_refl _) _⟩

theorem shape_49 (n : Int) (s : ByteArray) (c : List Tr) (A : Option Addr) (cap : Nat) (w : World) :
  Calls Try.prog 108 #[nodeV 49 n s A c.length cap] w fun e w' => e = .returned (.tuple #[.string ⟨#[112]⟩, .bool false, .bool true]) ∧ Below w.heap.size w w' := by
 unfold nodeV
 go_enter Try.func108, Try.ntmps108
 go_wp2_with fail
 go_ret3
 exact ⟨rfl, (Below.refl _ _).alloc (Nat.le_refl _) _⟩

theorem shape_52 (n : Int) (s : ByteArray) (c : List Tr) (A : Option Addr) (cap : Nat) (w : World) :
  Calls Try.prog 108 #[nodeV 52 n s A c.length cap] w fun e w' => e = .returned (.tuple #[.string ⟨#[101, 98, 98, 101]⟩, .bool false, .bool true]) ∧ Below w.heap.size w w' := by
 unfold nodeV
 go_enter Try.func108, Try.ntmps108
 go_wp2_with fail
 go_ret3
 exact ⟨rfl, (Below.refl _ _).alloc (Nat.le_refl _) _⟩

theorem shape_53 (n : Int) (s : ByteArray) (c : List Tr) (A : Option Addr) (cap : Nat) (w : World) :
  Calls Try.prog 108 #[nodeV 53 n s A c.length cap] w fun e w' => e = .returned (.tuple #[.string ⟨#[101, 98, 98, 101]⟩, .bool false, .bool true]) ∧ Below w.heap.size w w' := by
 unfold nodeV
 go_enter Try.func108, Try.ntmps108
 go_wp2_with fail
 go_ret3
 exact ⟨rfl, (Below.refl _ _).alloc (Nat.le_refl _) _⟩

theorem shape_54 (n : Int) (s : ByteArray) (c : List Tr) (A : Option Addr) (cap : Nat) (w : World) :
  Calls Try.prog 108 #[nodeV 54 n s A c.length cap] w fun e w' => e = .returned (.tuple #[.string ⟨#[101, 98, 101]⟩, .bool true, .bool true]) ∧ Below w.heap.size w w' := by
 unfold nodeV
 go_enter Try.func108, Try.ntmps108
 go_wp2_with fail
 go_ret3
 exact ⟨rfl, (Below.refl _ _).alloc (Nat.le_refl _) _⟩

theorem shape_55 (n : Int) (s : ByteArray) (c : List Tr) (A : Option Addr) (cap : Nat) (w : World) :
  Calls Try.prog 108 #[nodeV 55 n s A c.length cap] w fun e w' => e = .returned (.tuple #[.string ⟨#[98]⟩, .bool true, .bool true]) ∧ Below w.heap.size w w' := by
 unfold nodeV
 go_enter Try.func108, Try.ntmps108
 go_wp2_with fail
 go_ret3
 exact ⟨rfl, (Below.refl _ _).alloc (Nat.le_refl _) _⟩

theorem shape_50 (n : Int) (s : ByteArray) (c : List Tr) (A : Option Addr) (cap : Nat) (w : World) (hl : c.length ≤ 8) :
  Calls Try.prog 108 #[nodeV 50 n s A c.length cap] w fun e w' => e = .returned (.tuple #[.string (ByteArray.extract ⟨#[118, 118, 118, 118, 118, 118, 118, 118]⟩ 0 c.length), .bool true, .bool true]) ∧ Below w.heap.size w w' := by
 unfold nodeV
 go_enter Try.func108, Try.ntmps108
 go_wp2_with fail
 go_ret3
 exact ⟨rfl, (Below.refl _ _).alloc (Nat.le_refl _) _⟩
theorem shape_50_big (n : Int) (s : ByteArray) (c : List Tr) (A : Option Addr) (cap : Nat) (w : World) (hl : 8 < c.length) :
  Calls Try.prog 108 #[nodeV 50 n s A c.length cap] w fun e w' => e = .returned (.tuple #[.string ⟨#[]⟩, .bool true, .bool false]) ∧ Below w.heap.size w w' := by
 unfold nodeV
 go_enter Try.func108, Try.ntmps108
 go_wp2_with fail
 go_ret3
 exact ⟨rfl, (Below.refl _ _).alloc (Nat.le_refl _) _⟩

theorem shape_51 (n : Int) (s : ByteArray) (c : List Tr) (A : Option Addr) (cap : Nat) (w : World) (hl : c.length ≤ 8) :
  Calls Try.prog 108 #[nodeV 51 n s A c.length cap] w fun e w' => e = .returned (.tuple #[.string (ByteArray.extract ⟨#[118, 118, 118, 118, 118, 118, 118, 118]⟩ 0 c.length), .bool true, .bool true]) ∧ Below w.heap.size w w' := by
 unfold nodeV
 go_enter Try.func108, Try.ntmps108
 go_wp2_with fail
 go_ret3
 exact ⟨rfl, (Below.refl _ _).alloc (Nat.le_refl _) _⟩
theorem shape_51_big (n : Int) (s : ByteArray) (c : List Tr) (A : Option Addr) (cap : Nat) (w : World) (hl : 8 < c.length) :
  Calls Try.prog 108 #[nodeV 51 n s A c.length cap] w fun e w' => e = .returned (.tuple #[.string ⟨#[]⟩, .bool true, .bool false]) ∧ Below w.heap.size w w' := by
 unfold nodeV
 go_enter Try.func108, Try.ntmps108
 go_wp2_with fail
 go_ret3
 exact ⟨rfl, (Below.refl _ _).alloc (Nat.le_refl _) _⟩

theorem shape_other (k : Int) (n : Int) (s : ByteArray) (c : List Tr) (A : Option Addr) (cap : Nat) (w : World) (e40 : (k == 40) = false) (e41 : (k == 41) = false) (e42 : (k == 42) = false) (e56 : (k == 56) = false) (e43 : (k == 43) = false) (e44 : (k == 44) = false) (e45 : (k == 45) = false) (e46 : (k == 46) = false) (e47 : (k == 47) = false) (e48 : (k == 48) = false) (e49 : (k == 49) = false) (e52 : (k == 52) = false) (e53 : (k == 53) = false) (e54 : (k == 54) = false) (e55 : (k == 55) = false) (e50 : (k == 50) = false) (e51 : (k == 51) = false) :
  Calls Try.prog 108 #[nodeV k n s A c.length cap] w fun e w' => e = .returned (.tuple #[.string ⟨#[]⟩, .bool false, .bool false]) ∧ Below w.heap.size w w' := by
 unfold nodeV
 go_enter Try.func108, Try.ntmps108
 go_wp2_with fail
 go_ret3
 exact ⟨rfl, (Below.refl _ _).alloc (Nat.le_refl _) _⟩

end Go.Proofs.Ytlpgapmbajblmaa

/- Valid statements and blocks: the walks of the reference, the statement itself. -/
namespace Go.Proofs.Ytlpgapmbajblmaa
open Go.RowKit Go.Shelf

def catC (b : Int) (t : Tr) : Bool := if b = 101 then exprB t else if b = 112 then placeB t else if b = 98 then blockB t else varB t
/-- what the reference makes of a shape -/
def genB (sh : ByteArray) (named ok : Bool) (n : Int) (s : ByteArray) (c : List Tr) : Bool :=
 ok && (n == 0) && ((c.length : Int) == (sh.size : Int)) && (named == !emptyB s) && (!named || nameB s) && (List.zipWith (fun (b : UInt8) t => catC (b.toNat : Int) t) sh.data.toList c).all id

theorem zipC_of {l : List UInt8} : ∀ {c : List Tr}, (∀ (j : Nat) (h : j < l.length) (h' : j < c.length), catC (l[j].toNat : Int) c[j] = true) → (List.zipWith (fun (b : UInt8) t => catC (b.toNat : Int) t) l c).all id = true := by
 induction l with
 | nil => intro c _; rfl
 | cons p ps ih =>
  intro c hall
  cases c with
  | nil => rfl
  | cons t ts =>
   simp only [List.zipWith_cons_cons, List.all_cons, Bool.and_eq_true, id]
   exact ⟨hall 0 (by simp) (by simp), ih fun j hj hj' => hall (j + 1) (by simpa using hj) (by simpa using hj')⟩
theorem zipC_not {l : List UInt8} : ∀ {c : List Tr} (j : Nat) (h : j < l.length) (h' : j < c.length), catC (l[j].toNat : Int) c[j] = false → (List.zipWith (fun (b : UInt8) t => catC (b.toNat : Int) t) l c).all id = false := by
 induction l with
 | nil => intro c j h; exact absurd h (Nat.not_lt_zero _)
 | cons p ps ih =>
  intro c j h h' hf
  cases c with
  | nil => exact absurd h' (Nat.not_lt_zero _)
  | cons t ts =>
   simp only [List.zipWith_cons_cons, List.all_cons, id]
   cases j with
   | zero => simp only [List.getElem_cons_zero] at hf; rw [hf]; rfl
   | succ j =>
    have := ih (c := ts) j (by simpa using h) (by simpa using h') (by simpa using hf)
    rw [this]; simp

theorem byte_at (sh : ByteArray) (j : Nat) (_h : j < sh.size) (h' : j < sh.data.toList.length) : sh.data.toList[j] = sh[j] := by
 simp [ByteArray.getElem_eq_getElem_data]

set_option maxHeartbeats 800000 in
theorem rStmt_ok (sh : ByteArray) (named ok : Bool) (k n : Int) (s : ByteArray) (c : List Tr) (A : Option Addr) (cap : Nat) (w : World)
  (hsh : ∀ W : World, w.heap.size ≤ W.heap.size → Calls Try.prog 108 #[nodeV k n s A c.length cap] W fun e w' => e = .returned (.tuple #[.string sh, .bool named, .bool ok]) ∧ Below W.heap.size W w')
  (_hsz : sh.size ≤ 8)
  (hr : Rep w w.heap.size (.mk k n s c) (nodeV k n s A c.length cap))
  (h1 : ok = false) :
  Calls Try.prog 103 #[nodeV k n s A c.length cap] w fun e w' => e = .returned (.bool (genB sh named ok n s c)) ∧ Below w.heap.size w w' := by
 have HG := Lib.hid (show genB sh named ok n s c = false by simp [genB, h1])
 obtain ⟨_, hf, _⟩ := hr.row
 have hs1 := hf.s1
 have HSH := Lib.hid hsh
 unfold nodeV at *
 clear hr hsh
 subst h1
 all_goals
  go_enter Try.func103, Try.ntmps103
  go_wp2_with fail
  refine (HSH.out _ (by simp)).mono ?_
  rintro e w1 ⟨rfl, hb1⟩
  have hb2 := ((Below.refl _ w).alloc (Nat.le_refl _) _).trans (hb1.mono (by simp))
  obtain ⟨x0, x1, x2, x3⟩ := box_at hb1
  clear hb1
  go_wp2_with fail
  go_ret
  exact ⟨by simp [HG.out], hb2⟩

set_option maxHeartbeats 800000 in
theorem rStmt_num (sh : ByteArray) (named ok : Bool) (k n : Int) (s : ByteArray) (c : List Tr) (A : Option Addr) (cap : Nat) (w : World)
  (hsh : ∀ W : World, w.heap.size ≤ W.heap.size → Calls Try.prog 108 #[nodeV k n s A c.length cap] W fun e w' => e = .returned (.tuple #[.string sh, .bool named, .bool ok]) ∧ Below W.heap.size W w')
  (_hsz : sh.size ≤ 8)
  (hr : Rep w w.heap.size (.mk k n s c) (nodeV k n s A c.length cap))
  (h1 : ok = true) (h2 : (n == 0) = false) :
  Calls Try.prog 103 #[nodeV k n s A c.length cap] w fun e w' => e = .returned (.bool (genB sh named ok n s c)) ∧ Below w.heap.size w w' := by
 have HG := Lib.hid (show genB sh named ok n s c = false by simp [genB, h2])
 obtain ⟨_, hf, _⟩ := hr.row
 have hs1 := hf.s1
 have HSH := Lib.hid hsh
 unfold nodeV at *
 clear hr hsh
 subst h1
 have h2' : (n != 0) = true := by simp [bne, h2]
 all_goals
  go_enter Try.func103, Try.ntmps103
  go_wp2_with fail
  refine (HSH.out _ (by simp)).mono ?_
  rintro e w1 ⟨rfl, hb1⟩
  have hb2 := ((Below.refl _ w).alloc (Nat.le_refl _) _).trans (hb1.mono (by simp))
  obtain ⟨x0, x1, x2, x3⟩ := box_at hb1
  clear hb1
  go_wp2_with fail
  go_ret
  exact ⟨by simp [HG.out], hb2⟩

set_option maxHeartbeats 800000 in
theorem rStmt_len (sh : ByteArray) (named ok : Bool) (k n : Int) (s : ByteArray) (c : List Tr) (A : Option Addr) (cap : Nat) (w : World)
  (hsh : ∀ W : World, w.heap.size ≤ W.heap.size → Calls Try.prog 108 #[nodeV k n s A c.length cap] W fun e w' => e = .returned (.tuple #[.string sh, .bool named, .bool ok]) ∧ Below W.heap.size W w')
  (_hsz : sh.size ≤ 8)
  (hr : Rep w w.heap.size (.mk k n s c) (nodeV k n s A c.length cap))
  (h1 : ok = true) (h2 : (n == 0) = true) (h3 : ((c.length : Int) == (sh.size : Int)) = false) :
  Calls Try.prog 103 #[nodeV k n s A c.length cap] w fun e w' => e = .returned (.bool (genB sh named ok n s c)) ∧ Below w.heap.size w w' := by
 have HG := Lib.hid (show genB sh named ok n s c = false by simp [genB, h3])
 obtain ⟨_, hf, _⟩ := hr.row
 have hs1 := hf.s1
 have HSH := Lib.hid hsh
 unfold nodeV at *
 clear hr hsh
 subst h1
 have h2' : (n != 0) = false := by simp [bne, h2]
 have h3' : ((c.length : Int) != (sh.size : Int)) = true := by simp [bne, h3]
 all_goals
  go_enter Try.func103, Try.ntmps103
  go_wp2_with fail
  refine (HSH.out _ (by simp)).mono ?_
  rintro e w1 ⟨rfl, hb1⟩
  have hb2 := ((Below.refl _ w).alloc (Nat.le_refl _) _).trans (hb1.mono (by simp))
  obtain ⟨x0, x1, x2, x3⟩ := box_at hb1
  clear hb1
  go_wp2_with fail
  go_ret
  exact ⟨by simp [HG.out], hb2⟩

set_option maxHeartbeats 800000 in
theorem rStmt_nm (sh : ByteArray) (named ok : Bool) (k n : Int) (s : ByteArray) (c : List Tr) (A : Option Addr) (cap : Nat) (w : World)
  (hsh : ∀ W : World, w.heap.size ≤ W.heap.size → Calls Try.prog 108 #[nodeV k n s A c.length cap] W fun e w' => e = .returned (.tuple #[.string sh, .bool named, .bool ok]) ∧ Below W.heap.size W w')
  (_hsz : sh.size ≤ 8)
  (hr : Rep w w.heap.size (.mk k n s c) (nodeV k n s A c.length cap))
  (h1 : ok = true) (h2 : (n == 0) = true) (h3 : ((c.length : Int) == (sh.size : Int)) = true) (h4 : (named == !s.toList.isEmpty) = false) :
  Calls Try.prog 103 #[nodeV k n s A c.length cap] w fun e w' => e = .returned (.bool (genB sh named ok n s c)) ∧ Below w.heap.size w w' := by
 have HG := Lib.hid (show genB sh named ok n s c = false by simp [genB, emptyB, h4])
 obtain ⟨_, hf, _⟩ := hr.row
 have hs1 := hf.s1
 have HSH := Lib.hid hsh
 unfold nodeV at *
 clear hr hsh
 subst h1
 have h2' : (n != 0) = false := by simp [bne, h2]
 have h3' : ((c.length : Int) != (sh.size : Int)) = false := by simp [bne, h3]
 cases named <;> cases hs : s.toList.isEmpty <;> simp [hs] at h4
 all_goals
  go_enter Try.func103, Try.ntmps103
  go_wp2_with fail
  refine (HSH.out _ (by simp)).mono ?_
  rintro e w1 ⟨rfl, hb1⟩
  have hb2 := ((Below.refl _ w).alloc (Nat.le_refl _) _).trans (hb1.mono (by simp))
  obtain ⟨x0, x1, x2, x3⟩ := box_at hb1
  clear hb1
  go_wp2_with fail
  go_ret
  exact ⟨by simp [HG.out], hb2⟩

end Go.Proofs.Ytlpgapmbajblmaa

/- Valid statements: the walk of the reference, its loop. -/
namespace Go.Proofs.Ytlpgapmbajblmaa
open Go.RowKit Go.Shelf

set_option maxHeartbeats 800000 in
theorem rStmt_name (sh : ByteArray) (named ok : Bool) (k n : Int) (s : ByteArray) (c : List Tr) (A : Option Addr) (cap : Nat) (w : World)
  (hsh : ∀ W : World, w.heap.size ≤ W.heap.size → Calls Try.prog 108 #[nodeV k n s A c.length cap] W fun e w' => e = .returned (.tuple #[.string sh, .bool named, .bool ok]) ∧ Below W.heap.size W w')
  (_hsz : sh.size ≤ 8)
  (hr : Rep w w.heap.size (.mk k n s c) (nodeV k n s A c.length cap))
  (h1 : ok = true) (h2 : (n == 0) = true) (h3 : ((c.length : Int) == (sh.size : Int)) = true) (h4 : named = true) (h5 : s.toList.isEmpty = false) (h6 : nameB s = false) :
  Calls Try.prog 103 #[nodeV k n s A c.length cap] w fun e w' => e = .returned (.bool (genB sh named ok n s c)) ∧ Below w.heap.size w w' := by
 have HG := Lib.hid (show genB sh named ok n s c = false by simp [genB, h4, h6])
 obtain ⟨_, hf, _⟩ := hr.row
 have hs1 := hf.s1
 have HSH := Lib.hid hsh
 have H6 := Lib.hid h6
 unfold nodeV at *
 clear hr hsh h6
 subst h1
 subst h4
 have h2' : (n != 0) = false := by simp [bne, h2]
 have h3' : ((c.length : Int) != (sh.size : Int)) = false := by simp [bne, h3]
 all_goals
  go_enter Try.func103, Try.ntmps103
  go_wp2_with fail
  refine (HSH.out _ (by simp)).mono ?_
  rintro e w1 ⟨rfl, hb1⟩
  have hb2 := ((Below.refl _ w).alloc (Nat.le_refl _) _).trans (hb1.mono (by simp))
  obtain ⟨x0, x1, x2, x3⟩ := box_at hb1
  clear hb1
  go_wp2_with fail
  refine (rname_any s hs1 _).mono ?_
  rw [H6.out]
  rintro e w2 ⟨rfl, hb3⟩
  have hb4 := hb2.trans (hb3.mono hb2.size)
  clear hb3
  go_wp2_with fail
  go_ret
  exact ⟨by simp [HG.out], hb4⟩

set_option maxHeartbeats 3200000 in
theorem rStmt_loop0 (sh : ByteArray) (k n : Int) (s : ByteArray) (c : List Tr) (A : Option Addr) (cap : Nat) (w : World)
  (hsh : ∀ W : World, w.heap.size ≤ W.heap.size → Calls Try.prog 108 #[nodeV k n s A c.length cap] W fun e w' => e = .returned (.tuple #[.string sh, .bool false, .bool true]) ∧ Below W.heap.size W w')
  (hsz : sh.size ≤ 8)
  (hr : Rep w w.heap.size (.mk k n s c) (nodeV k n s A c.length cap))
  (hbytes : ∀ (i : Nat) (h : i < sh.size), (sh[i].toNat : Int) = 101 ∨ (sh[i].toNat : Int) = 112 ∨ (sh[i].toNat : Int) = 98 ∨ (sh[i].toNat : Int) = 118)
  (ihb : ∀ t, t ∈ c → Tests 86 blockB t) (h2 : (n == 0) = true) (h3 : ((c.length : Int) == (sh.size : Int)) = true) (h5 : s.toList.isEmpty = true) :
  Calls Try.prog 103 #[nodeV k n s A c.length cap] w fun e w' => e = .returned (.bool (genB sh false true n s c)) ∧ Below w.heap.size w w' := by
 obtain ⟨_, hf, hrow⟩ := hr.row
 have hs1 := hf.s1
 have HSH := Lib.hid hsh
 have HROW := Lib.hid hrow
 have HIB := Lib.hid ihb
 have HBY := Lib.hid hbytes
 unfold nodeV at *
 clear hr hsh hrow ihb hbytes
 have g2 := h2
 have g3 := h3
 have h2' : (n != 0) = false := by simp [bne, h2]
 have h3' : ((c.length : Int) != (sh.size : Int)) = false := by simp [bne, h3]
 have hle1 : c.length ≤ sh.size := by have hh := h3; simp at hh; omega
 have hle2 : sh.size ≤ c.length := by have hh := h3; simp at hh; omega
 have g4 : (false == !s.toList.isEmpty) = true := by simp [h5]
 have g5 : (!false || nameB s) = true := rfl
 go_enter Try.func103, Try.ntmps103
 go_wp2_with fail
 refine (HSH.out _ (by simp)).mono ?_
 rintro e w1 ⟨rfl, hb1⟩
 have hb2 := ((Below.refl _ w).alloc (Nat.le_refl _) _).trans (hb1.mono (by simp))
 obtain ⟨x0, x1, x2, x3⟩ := box_at hb1
 have hbw0 := (Below.refl _ (w.alloc (.cells #[.int .u8 k, .int .i64 n, .string s, .slice A c.length cap] 24))).trans (hb1.mono (Nat.le_refl _))
 rw [World.size_alloc] at hbw0
 clear hb1
 go_wp2_with fail
 go_loopw [6] (fun i wr => ∃ j : Nat, j ≤ sh.size ∧ i = .int .i64 j ∧ Hid (∀ (m : Nat) (h : m < sh.size) (h' : m < c.length), m < j → catC (sh[m].toNat : Int) c[m] = true) ∧ Below (w.heap.size + 1) (w.alloc (.cells #[.int .u8 k, .int .i64 n, .string s, .slice A c.length cap] 24)) wr) (fun i _ => sh.size - (intOf i).toNat)
 case atStart => exact ⟨0, Nat.zero_le _, rfl, fun m _ _ h => absurd h (Nat.not_lt_zero _), hbw0⟩
 case round =>
  obtain ⟨i, hi, rfl, hall, hbw⟩ := hrel
  have hbb : Below w.heap.size w wr := ((Below.refl _ _).alloc (Nat.le_refl _) _).trans (hbw.mono (by omega))
  by_cases hlt : i < sh.size
  ·have hlt' : i < c.length := by omega
   obtain ⟨b, off, A', cap', rfl, hbB, h0, h1, h2, h3, hk⟩ := (HROW.out.below hbb).kid i hlt'
   have hmem : c[i] ∈ c := List.getElem_mem hlt'
   have hws := hbb.size
   obtain ⟨x0, x1, x2, x3⟩ := box_at (by simpa using hbw)
   have hstep : catC (sh[i].toNat : Int) c[i] = true → ∀ (m : Nat) (h : m < sh.size) (h' : m < c.length), m < i + 1 → catC (sh[m].toNat : Int) c[m] = true := by
    intro hc m h h' hm
    by_cases e : m = i
    ·subst e; exact hc
    ·exact hall.out m h h' (by omega)
   have HSTEP := Lib.hid hstep
   have hno : catC (sh[i].toNat : Int) c[i] = false → genB sh false true n s c = false := by
    intro hc
    have := zipC_not (l := sh.data.toList) (c := c) i (by simpa using hlt) hlt' (by rw [byte_at sh i hlt]; exact hc)
    simp only [genB, this, Bool.and_false]
   have HNO := Lib.hid hno
   have hwn : Below (w.heap.size + 1) (w.alloc (.cells #[.int .u8 k, .int .i64 n, .string s, .slice (some ⟨b, off, none⟩) c.length cap] 24)) (wr.alloc (.cells #[.int .u8 c[i].kind, .int .i64 c[i].num, .string c[i].name, .slice A' c[i].kids.length cap'] 24)) := hbw.alloc (by have := hbw.size; simp at this; omega) _
   have HWN := Lib.hid hwn
   clear hall hstep hno hwn
   have hby := HBY.out i hlt
   rcases hby with hb | hb | hb | hb
   ·have hbv : (sh[i].toNat : Int) = 101 := hb
    have e1 : ((sh[i].toNat : Int) == 101) = true := by rw [hbv]; rfl
    have f0 : ((sh[i].toNat : Int) == 112) = false := by rw [hbv]; rfl
    have f1 : ((sh[i].toNat : Int) == 98) = false := by rw [hbv]; rfl
    have f2 : ((sh[i].toNat : Int) == 118) = false := by rw [hbv]; rfl
    cases hp : exprB c[i]
    ·have HP := Lib.hid hp
     have HC := Lib.hid (show catC (sh[i].toNat : Int) c[i] = false by rw [hbv]; simpa [catC] using hp)
     clear hp hbv hb
     go_wp2_with fail
     refine (rExpr_any _ _ _ (hk.alloc hws _)).mono ?_
     rw [HP.out]
     rintro e w1 ⟨rfl, hb1⟩
     have hb2 := HWN.out.trans (hb1.mono (by have := hbw.size; simp at this ⊢; omega))
     clear hb1
     go_wp2_with fail
     go_ret
     exact ⟨by simp [HNO.out HC.out], ((Below.refl _ _).alloc (Nat.le_refl _) _).trans (hb2.mono (by omega))⟩
    ·have HP := Lib.hid hp
     have HC := Lib.hid (show catC (sh[i].toNat : Int) c[i] = true by rw [hbv]; simpa [catC] using hp)
     clear hp hbv hb
     go_wp2_with fail
     refine (rExpr_any _ _ _ (hk.alloc hws _)).mono ?_
     rw [HP.out]
     rintro e w1 ⟨rfl, hb1⟩
     have hb2 := HWN.out.trans (hb1.mono (by have := hbw.size; simp at this ⊢; omega))
     clear hb1
     go_wp2_with fail
     go_roundw
     case rel => exact ⟨i + 1, by omega, by go_num, HSTEP.out HC.out, hb2⟩
     case measure => simp [intOf]; omega
   ·have hbv : (sh[i].toNat : Int) = 112 := hb
    have e1 : ((sh[i].toNat : Int) == 112) = true := by rw [hbv]; rfl
    have f0 : ((sh[i].toNat : Int) == 101) = false := by rw [hbv]; rfl
    have f1 : ((sh[i].toNat : Int) == 98) = false := by rw [hbv]; rfl
    have f2 : ((sh[i].toNat : Int) == 118) = false := by rw [hbv]; rfl
    cases hp : placeB c[i]
    ·have HP := Lib.hid hp
     have HC := Lib.hid (show catC (sh[i].toNat : Int) c[i] = false by rw [hbv]; simpa [catC] using hp)
     clear hp hbv hb
     go_wp2_with fail
     refine (rPlace_any _ _ _ (hk.alloc hws _)).mono ?_
     rw [HP.out]
     rintro e w1 ⟨rfl, hb1⟩
     have hb2 := HWN.out.trans (hb1.mono (by have := hbw.size; simp at this ⊢; omega))
     clear hb1
     go_wp2_with fail
     go_ret
     exact ⟨by simp [HNO.out HC.out], ((Below.refl _ _).alloc (Nat.le_refl _) _).trans (hb2.mono (by omega))⟩
    ·have HP := Lib.hid hp
     have HC := Lib.hid (show catC (sh[i].toNat : Int) c[i] = true by rw [hbv]; simpa [catC] using hp)
     clear hp hbv hb
     go_wp2_with fail
     refine (rPlace_any _ _ _ (hk.alloc hws _)).mono ?_
     rw [HP.out]
     rintro e w1 ⟨rfl, hb1⟩
     have hb2 := HWN.out.trans (hb1.mono (by have := hbw.size; simp at this ⊢; omega))
     clear hb1
     go_wp2_with fail
     go_roundw
     case rel => exact ⟨i + 1, by omega, by go_num, HSTEP.out HC.out, hb2⟩
     case measure => simp [intOf]; omega
   ·have hbv : (sh[i].toNat : Int) = 98 := hb
    have e1 : ((sh[i].toNat : Int) == 98) = true := by rw [hbv]; rfl
    have f0 : ((sh[i].toNat : Int) == 101) = false := by rw [hbv]; rfl
    have f1 : ((sh[i].toNat : Int) == 112) = false := by rw [hbv]; rfl
    have f2 : ((sh[i].toNat : Int) == 118) = false := by rw [hbv]; rfl
    cases hp : blockB c[i]
    ·have HP := Lib.hid hp
     have HC := Lib.hid (show catC (sh[i].toNat : Int) c[i] = false by rw [hbv]; simpa [catC] using hp)
     clear hp hbv hb
     go_wp2_with fail
     refine (HIB.out _ hmem _ _ (hk.alloc hws _)).mono ?_
     rw [HP.out]
     rintro e w1 ⟨rfl, hb1⟩
     have hb2 := HWN.out.trans (hb1.mono (by have := hbw.size; simp at this ⊢; omega))
     clear hb1
     go_wp2_with fail
     go_ret
     exact ⟨by simp [HNO.out HC.out], ((Below.refl _ _).alloc (Nat.le_refl _) _).trans (hb2.mono (by omega))⟩
    ·have HP := Lib.hid hp
     have HC := Lib.hid (show catC (sh[i].toNat : Int) c[i] = true by rw [hbv]; simpa [catC] using hp)
     clear hp hbv hb
     go_wp2_with fail
     refine (HIB.out _ hmem _ _ (hk.alloc hws _)).mono ?_
     rw [HP.out]
     rintro e w1 ⟨rfl, hb1⟩
     have hb2 := HWN.out.trans (hb1.mono (by have := hbw.size; simp at this ⊢; omega))
     clear hb1
     go_wp2_with fail
     go_roundw
     case rel => exact ⟨i + 1, by omega, by go_num, HSTEP.out HC.out, hb2⟩
     case measure => simp [intOf]; omega
   ·have hbv : (sh[i].toNat : Int) = 118 := hb
    have e1 : ((sh[i].toNat : Int) == 118) = true := by rw [hbv]; rfl
    have f0 : ((sh[i].toNat : Int) == 101) = false := by rw [hbv]; rfl
    have f1 : ((sh[i].toNat : Int) == 112) = false := by rw [hbv]; rfl
    have f2 : ((sh[i].toNat : Int) == 98) = false := by rw [hbv]; rfl
    cases hk2 : (c[i].kind == 2)
    ·have hk2' : (c[i].kind != 2) = true := by simp [bne, hk2]
     have HC := Lib.hid (show catC (sh[i].toNat : Int) c[i] = false by rw [hbv]; simp [catC, varB, hk2])
     clear hbv hb
     go_wp2_with fail
     have hb2 := HWN.out
     go_ret
     exact ⟨by simp [HNO.out HC.out], ((Below.refl _ _).alloc (Nat.le_refl _) _).trans (hb2.mono (by omega))⟩
    ·have hk2' : (c[i].kind != 2) = false := by simp [bne, hk2]
     cases hp : exprB c[i]
     ·have HP := Lib.hid hp
      have HC := Lib.hid (show catC (sh[i].toNat : Int) c[i] = false by rw [hbv]; simp [catC, varB, hk2, hp])
      clear hp hbv hb
      go_wp2_with fail
      refine (rExpr_any _ _ _ (hk.alloc hws _)).mono ?_
      rw [HP.out]
      rintro e w1 ⟨rfl, hb1⟩
      have hb2 := HWN.out.trans (hb1.mono (by have := hbw.size; simp at this ⊢; omega))
      clear hb1
      go_wp2_with fail
      go_ret
      exact ⟨by simp [HNO.out HC.out], ((Below.refl _ _).alloc (Nat.le_refl _) _).trans (hb2.mono (by omega))⟩
     ·have HP := Lib.hid hp
      have HC := Lib.hid (show catC (sh[i].toNat : Int) c[i] = true by rw [hbv]; simp [catC, varB, hk2, hp])
      clear hp hbv hb
      go_wp2_with fail
      refine (rExpr_any _ _ _ (hk.alloc hws _)).mono ?_
      rw [HP.out]
      rintro e w1 ⟨rfl, hb1⟩
      have hb2 := HWN.out.trans (hb1.mono (by have := hbw.size; simp at this ⊢; omega))
      clear hb1
      go_wp2_with fail
      go_roundw
      case rel => exact ⟨i + 1, by omega, by go_num, HSTEP.out HC.out, hb2⟩
      case measure => simp [intOf]; omega
  ·obtain rfl : i = sh.size := by omega
   go_wp2_with fail
   go_ret
   have hz : genB sh false true n s c = true := by
    have := zipC_of (l := sh.data.toList) (c := c) fun j hj hj' => by rw [byte_at sh j (by simpa using hj)]; exact hall.out j (by simpa using hj) hj' (by simpa using hj)
    simp only [genB, emptyB, this, g2, g3, g4, g5]
    rfl
   exact ⟨by simp [hz], hbb⟩

set_option maxHeartbeats 3200000 in
theorem rStmt_loop1 (sh : ByteArray) (k n : Int) (s : ByteArray) (c : List Tr) (A : Option Addr) (cap : Nat) (w : World)
  (hsh : ∀ W : World, w.heap.size ≤ W.heap.size → Calls Try.prog 108 #[nodeV k n s A c.length cap] W fun e w' => e = .returned (.tuple #[.string sh, .bool true, .bool true]) ∧ Below W.heap.size W w')
  (hsz : sh.size ≤ 8)
  (hr : Rep w w.heap.size (.mk k n s c) (nodeV k n s A c.length cap))
  (hbytes : ∀ (i : Nat) (h : i < sh.size), (sh[i].toNat : Int) = 101 ∨ (sh[i].toNat : Int) = 112 ∨ (sh[i].toNat : Int) = 98 ∨ (sh[i].toNat : Int) = 118)
  (ihb : ∀ t, t ∈ c → Tests 86 blockB t) (h2 : (n == 0) = true) (h3 : ((c.length : Int) == (sh.size : Int)) = true) (h5 : s.toList.isEmpty = false) (h6 : nameB s = true) :
  Calls Try.prog 103 #[nodeV k n s A c.length cap] w fun e w' => e = .returned (.bool (genB sh true true n s c)) ∧ Below w.heap.size w w' := by
 obtain ⟨_, hf, hrow⟩ := hr.row
 have hs1 := hf.s1
 have HSH := Lib.hid hsh
 have HROW := Lib.hid hrow
 have HIB := Lib.hid ihb
 have HBY := Lib.hid hbytes
 unfold nodeV at *
 clear hr hsh hrow ihb hbytes
 have g2 := h2
 have g3 := h3
 have h2' : (n != 0) = false := by simp [bne, h2]
 have h3' : ((c.length : Int) != (sh.size : Int)) = false := by simp [bne, h3]
 have hle1 : c.length ≤ sh.size := by have hh := h3; simp at hh; omega
 have hle2 : sh.size ≤ c.length := by have hh := h3; simp at hh; omega
 have g4 : (true == !s.toList.isEmpty) = true := by simp [h5]
 have g5 : (!true || nameB s) = true := by simp [h6]
 have H6 := Lib.hid h6
 have G5 := Lib.hid g5
 clear h6 g5
 go_enter Try.func103, Try.ntmps103
 go_wp2_with fail
 refine (HSH.out _ (by simp)).mono ?_
 rintro e w1 ⟨rfl, hb1⟩
 have hb2 := ((Below.refl _ w).alloc (Nat.le_refl _) _).trans (hb1.mono (by simp))
 obtain ⟨x0, x1, x2, x3⟩ := box_at hb1
 have hbw1 := (Below.refl _ (w.alloc (.cells #[.int .u8 k, .int .i64 n, .string s, .slice A c.length cap] 24))).trans (hb1.mono (Nat.le_refl _))
 rw [World.size_alloc] at hbw1
 clear hb1
 go_wp2_with fail
 refine (rname_any s hs1 _).mono ?_
 rw [H6.out]
 rintro e w2 ⟨rfl, hb3⟩
 have hbw0 := hbw1.trans (hb3.mono (by have := hbw1.size; simp at this; omega))
 clear hb3 hb2 x0 x1 x2 x3
 go_wp2_with fail
 go_loopw [6] (fun i wr => ∃ j : Nat, j ≤ sh.size ∧ i = .int .i64 j ∧ Hid (∀ (m : Nat) (h : m < sh.size) (h' : m < c.length), m < j → catC (sh[m].toNat : Int) c[m] = true) ∧ Below (w.heap.size + 1) (w.alloc (.cells #[.int .u8 k, .int .i64 n, .string s, .slice A c.length cap] 24)) wr) (fun i _ => sh.size - (intOf i).toNat)
 case atStart => exact ⟨0, Nat.zero_le _, rfl, fun m _ _ h => absurd h (Nat.not_lt_zero _), hbw0⟩
 case round =>
  obtain ⟨i, hi, rfl, hall, hbw⟩ := hrel
  have hbb : Below w.heap.size w wr := ((Below.refl _ _).alloc (Nat.le_refl _) _).trans (hbw.mono (by omega))
  by_cases hlt : i < sh.size
  ·have hlt' : i < c.length := by omega
   obtain ⟨b, off, A', cap', rfl, hbB, h0, h1, h2, h3, hk⟩ := (HROW.out.below hbb).kid i hlt'
   have hmem : c[i] ∈ c := List.getElem_mem hlt'
   have hws := hbb.size
   obtain ⟨x0, x1, x2, x3⟩ := box_at (by simpa using hbw)
   have hstep : catC (sh[i].toNat : Int) c[i] = true → ∀ (m : Nat) (h : m < sh.size) (h' : m < c.length), m < i + 1 → catC (sh[m].toNat : Int) c[m] = true := by
    intro hc m h h' hm
    by_cases e : m = i
    ·subst e; exact hc
    ·exact hall.out m h h' (by omega)
   have HSTEP := Lib.hid hstep
   have hno : catC (sh[i].toNat : Int) c[i] = false → genB sh true true n s c = false := by
    intro hc
    have := zipC_not (l := sh.data.toList) (c := c) i (by simpa using hlt) hlt' (by rw [byte_at sh i hlt]; exact hc)
    simp only [genB, this, Bool.and_false]
   have HNO := Lib.hid hno
   have hwn : Below (w.heap.size + 1) (w.alloc (.cells #[.int .u8 k, .int .i64 n, .string s, .slice (some ⟨b, off, none⟩) c.length cap] 24)) (wr.alloc (.cells #[.int .u8 c[i].kind, .int .i64 c[i].num, .string c[i].name, .slice A' c[i].kids.length cap'] 24)) := hbw.alloc (by have := hbw.size; simp at this; omega) _
   have HWN := Lib.hid hwn
   clear hall hstep hno hwn
   have hby := HBY.out i hlt
   rcases hby with hb | hb | hb | hb
   ·have hbv : (sh[i].toNat : Int) = 101 := hb
    have e1 : ((sh[i].toNat : Int) == 101) = true := by rw [hbv]; rfl
    have f0 : ((sh[i].toNat : Int) == 112) = false := by rw [hbv]; rfl
    have f1 : ((sh[i].toNat : Int) == 98) = false := by rw [hbv]; rfl
    have f2 : ((sh[i].toNat : Int) == 118) = false := by rw [hbv]; rfl
    cases hp : exprB c[i]
    ·have HP := Lib.hid hp
     have HC := Lib.hid (show catC (sh[i].toNat : Int) c[i] = false by rw [hbv]; simpa [catC] using hp)
     clear hp hbv hb
     go_wp2_with fail
     refine (rExpr_any _ _ _ (hk.alloc hws _)).mono ?_
     rw [HP.out]
     rintro e w1 ⟨rfl, hb1⟩
     have hb2 := HWN.out.trans (hb1.mono (by have := hbw.size; simp at this ⊢; omega))
     clear hb1
     go_wp2_with fail
     go_ret
     exact ⟨by simp [HNO.out HC.out], ((Below.refl _ _).alloc (Nat.le_refl _) _).trans (hb2.mono (by omega))⟩
    ·have HP := Lib.hid hp
     have HC := Lib.hid (show catC (sh[i].toNat : Int) c[i] = true by rw [hbv]; simpa [catC] using hp)
     clear hp hbv hb
     go_wp2_with fail
     refine (rExpr_any _ _ _ (hk.alloc hws _)).mono ?_
     rw [HP.out]
     rintro e w1 ⟨rfl, hb1⟩
     have hb2 := HWN.out.trans (hb1.mono (by have := hbw.size; simp at this ⊢; omega))
     clear hb1
     go_wp2_with fail
     go_roundw
     case rel => exact ⟨i + 1, by omega, by go_num, HSTEP.out HC.out, hb2⟩
     case measure => simp [intOf]; omega
   ·have hbv : (sh[i].toNat : Int) = 112 := hb
    have e1 : ((sh[i].toNat : Int) == 112) = true := by rw [hbv]; rfl
    have f0 : ((sh[i].toNat : Int) == 101) = false := by rw [hbv]; rfl
    have f1 : ((sh[i].toNat : Int) == 98) = false := by rw [hbv]; rfl
    have f2 : ((sh[i].toNat : Int) == 118) = false := by rw [hbv]; rfl
    cases hp : placeB c[i]
    ·have HP := Lib.hid hp
     have HC := Lib.hid (show catC (sh[i].toNat : Int) c[i] = false by rw [hbv]; simpa [catC] using hp)
     clear hp hbv hb
     go_wp2_with fail
     refine (rPlace_any _ _ _ (hk.alloc hws _)).mono ?_
     rw [HP.out]
     rintro e w1 ⟨rfl, hb1⟩
     have hb2 := HWN.out.trans (hb1.mono (by have := hbw.size; simp at this ⊢; omega))
     clear hb1
     go_wp2_with fail
     go_ret
     exact ⟨by simp [HNO.out HC.out], ((Below.refl _ _).alloc (Nat.le_refl _) _).trans (hb2.mono (by omega))⟩
    ·have HP := Lib.hid hp
     have HC := Lib.hid (show catC (sh[i].toNat : Int) c[i] = true by rw [hbv]; simpa [catC] using hp)
     clear hp hbv hb
     go_wp2_with fail
     refine (rPlace_any _ _ _ (hk.alloc hws _)).mono ?_
     rw [HP.out]
     rintro e w1 ⟨rfl, hb1⟩
     have hb2 := HWN.out.trans (hb1.mono (by have := hbw.size; simp at this ⊢; omega))
     clear hb1
     go_wp2_with fail
     go_roundw
     case rel => exact ⟨i + 1, by omega, by go_num, HSTEP.out HC.out, hb2⟩
     case measure => simp [intOf]; omega
   ·have hbv : (sh[i].toNat : Int) = 98 := hb
    have e1 : ((sh[i].toNat : Int) == 98) = true := by rw [hbv]; rfl
    have f0 : ((sh[i].toNat : Int) == 101) = false := by rw [hbv]; rfl
    have f1 : ((sh[i].toNat : Int) == 112) = false := by rw [hbv]; rfl
    have f2 : ((sh[i].toNat : Int) == 118) = false := by rw [hbv]; rfl
    cases hp : blockB c[i]
    ·have HP := Lib.hid hp
     have HC := Lib.hid (show catC (sh[i].toNat : Int) c[i] = false by rw [hbv]; simpa [catC] using hp)
     clear hp hbv hb
     go_wp2_with fail
     refine (HIB.out _ hmem _ _ (hk.alloc hws _)).mono ?_
     rw [HP.out]
     rintro e w1 ⟨rfl, hb1⟩
     have hb2 := HWN.out.trans (hb1.mono (by have := hbw.size; simp at this ⊢; omega))
     clear hb1
     go_wp2_with fail
     go_ret
     exact ⟨by simp [HNO.out HC.out], ((Below.refl _ _).alloc (Nat.le_refl _) _).trans (hb2.mono (by omega))⟩
    ·have HP := Lib.hid hp
     have HC := Lib.hid (show catC (sh[i].toNat : Int) c[i] = true by rw [hbv]; simpa [catC] using hp)
     clear hp hbv hb
     go_wp2_with fail
     refine (HIB.out _ hmem _ _ (hk.alloc hws _)).mono ?_
     rw [HP.out]
     rintro e w1 ⟨rfl, hb1⟩
     have hb2 := HWN.out.trans (hb1.mono (by have := hbw.size; simp at this ⊢; omega))
     clear hb1
     go_wp2_with fail
     go_roundw
     case rel => exact ⟨i + 1, by omega, by go_num, HSTEP.out HC.out, hb2⟩
     case measure => simp [intOf]; omega
   ·have hbv : (sh[i].toNat : Int) = 118 := hb
    have e1 : ((sh[i].toNat : Int) == 118) = true := by rw [hbv]; rfl
    have f0 : ((sh[i].toNat : Int) == 101) = false := by rw [hbv]; rfl
    have f1 : ((sh[i].toNat : Int) == 112) = false := by rw [hbv]; rfl
    have f2 : ((sh[i].toNat : Int) == 98) = false := by rw [hbv]; rfl
    cases hk2 : (c[i].kind == 2)
    ·have hk2' : (c[i].kind != 2) = true := by simp [bne, hk2]
     have HC := Lib.hid (show catC (sh[i].toNat : Int) c[i] = false by rw [hbv]; simp [catC, varB, hk2])
     clear hbv hb
     go_wp2_with fail
     have hb2 := HWN.out
     go_ret
     exact ⟨by simp [HNO.out HC.out], ((Below.refl _ _).alloc (Nat.le_refl _) _).trans (hb2.mono (by omega))⟩
    ·have hk2' : (c[i].kind != 2) = false := by simp [bne, hk2]
     cases hp : exprB c[i]
     ·have HP := Lib.hid hp
      have HC := Lib.hid (show catC (sh[i].toNat : Int) c[i] = false by rw [hbv]; simp [catC, varB, hk2, hp])
      clear hp hbv hb
      go_wp2_with fail
      refine (rExpr_any _ _ _ (hk.alloc hws _)).mono ?_
      rw [HP.out]
      rintro e w1 ⟨rfl, hb1⟩
      have hb2 := HWN.out.trans (hb1.mono (by have := hbw.size; simp at this ⊢; omega))
      clear hb1
      go_wp2_with fail
      go_ret
      exact ⟨by simp [HNO.out HC.out], ((Below.refl _ _).alloc (Nat.le_refl _) _).trans (hb2.mono (by omega))⟩
     ·have HP := Lib.hid hp
      have HC := Lib.hid (show catC (sh[i].toNat : Int) c[i] = true by rw [hbv]; simp [catC, varB, hk2, hp])
      clear hp hbv hb
      go_wp2_with fail
      refine (rExpr_any _ _ _ (hk.alloc hws _)).mono ?_
      rw [HP.out]
      rintro e w1 ⟨rfl, hb1⟩
      have hb2 := HWN.out.trans (hb1.mono (by have := hbw.size; simp at this ⊢; omega))
      clear hb1
      go_wp2_with fail
      go_roundw
      case rel => exact ⟨i + 1, by omega, by go_num, HSTEP.out HC.out, hb2⟩
      case measure => simp [intOf]; omega
  ·obtain rfl : i = sh.size := by omega
   go_wp2_with fail
   go_ret
   have hz : genB sh true true n s c = true := by
    have := zipC_of (l := sh.data.toList) (c := c) fun j hj hj' => by rw [byte_at sh j (by simpa using hj)]; exact hall.out j (by simpa using hj) hj' (by simpa using hj)
    simp only [genB, emptyB, this, g2, g3, g4, G5.out]
    rfl
   exact ⟨by simp [hz], hbb⟩

end Go.Proofs.Ytlpgapmbajblmaa

/- Valid statements and blocks of the reference, together. -/
namespace Go.Proofs.Ytlpgapmbajblmaa
open Go.RowKit Go.Shelf

theorem rStmt_gen (sh : ByteArray) (named ok : Bool) (k n : Int) (s : ByteArray) (c : List Tr) (A : Option Addr) (cap : Nat) (w : World)
  (hsh : ∀ W : World, w.heap.size ≤ W.heap.size → Calls Try.prog 108 #[nodeV k n s A c.length cap] W fun e w' => e = .returned (.tuple #[.string sh, .bool named, .bool ok]) ∧ Below W.heap.size W w')
  (hsz : sh.size ≤ 8)
  (hbytes : ∀ (i : Nat) (h : i < sh.size), (sh[i].toNat : Int) = 101 ∨ (sh[i].toNat : Int) = 112 ∨ (sh[i].toNat : Int) = 98 ∨ (sh[i].toNat : Int) = 118)
  (ihb : ∀ t, t ∈ c → Tests 86 blockB t)
  (hr : Rep w w.heap.size (.mk k n s c) (nodeV k n s A c.length cap)) :
  Calls Try.prog 103 #[nodeV k n s A c.length cap] w fun e w' => e = .returned (.bool (genB sh named ok n s c)) ∧ Below w.heap.size w w' := by
 cases ok with
 | false => exact rStmt_ok sh named false k n s c A cap w hsh hsz hr rfl
 | true =>
  cases h2 : (n == 0) with
  | false => exact rStmt_num sh named true k n s c A cap w hsh hsz hr rfl h2
  | true =>
   cases h3 : ((c.length : Int) == (sh.size : Int)) with
   | false => exact rStmt_len sh named true k n s c A cap w hsh hsz hr rfl h2 h3
   | true =>
    cases h4 : (named == !s.toList.isEmpty) with
    | false => exact rStmt_nm sh named true k n s c A cap w hsh hsz hr rfl h2 h3 h4
    | true =>
     cases named with
     | false =>
      have h5 : s.toList.isEmpty = true := by cases he : s.toList.isEmpty <;> simp [he] at h4 ⊢
      exact rStmt_loop0 sh k n s c A cap w hsh hsz hr hbytes ihb h2 h3 h5
     | true =>
      have h5 : s.toList.isEmpty = false := by cases he : s.toList.isEmpty <;> simp [he] at h4 ⊢
      cases h6 : nameB s with
      | false => exact rStmt_name sh true true k n s c A cap w hsh hsz hr rfl h2 h3 rfl h5 h6
      | true => exact rStmt_loop1 sh k n s c A cap w hsh hsz hr hbytes ihb h2 h3 h5 h6

def catN (b : UInt8) : Nat := if b = 101 then 0 else if b = 112 then 1 else if b = 98 then 2 else 3
theorem catC_N (b : UInt8) (t : Tr) : catC (b.toNat : Int) t = (if catN b = 0 then exprB t else if catN b = 1 then placeB t else if catN b = 2 then blockB t else varB t) := by
 have key : ∀ m : Nat, m < 256 → (((b.toNat : Int) = (m : Int)) ↔ b = UInt8.ofNat m) := by
  intro m hm
  constructor
  ·intro h
   have : b.toNat = m := by omega
   rw [← this]; simp
  ·intro h; subst h
   have : (UInt8.ofNat m).toNat = m := by simp; omega
   omega
 have k1 := key 101 (by omega)
 have k2 := key 112 (by omega)
 have k3 := key 98 (by omega)
 unfold catC catN
 by_cases h1 : b = 101
 ·subst h1; rfl
 ·have g1 : ¬ (b.toNat : Int) = 101 := fun e => h1 (k1.1 e)
  by_cases h2 : b = 112
  ·subst h2; rfl
  ·have g2 : ¬ (b.toNat : Int) = 112 := fun e => h2 (k2.1 e)
   by_cases h3 : b = 98
   ·subst h3; rfl
   ·have g3 : ¬ (b.toNat : Int) = 98 := fun e => h3 (k3.1 e)
    simp [g1, g2, g3, h1, h2, h3]

theorem zipC_cats : ∀ (l : List UInt8) (c : List Tr), (((c.length : Int) == (l.length : Int)) && (List.zipWith (fun (b : UInt8) t => catC (b.toNat : Int) t) l c).all id) = catsB (l.map catN) c
 | [], [] => by simp [catsB]
 | [], t :: r => by
  have : (((t :: r).length : Int) == (([] : List UInt8).length : Int)) = false := by simp; omega
  rw [this]; simp [catsB]
 | b :: l, [] => by
  have : ((([] : List Tr).length : Int) == ((b :: l).length : Int)) = false := by simp; omega
  rw [this]; simp [catsB]
 | b :: l, t :: r => by
  have hl : (((t :: r).length : Int) == ((b :: l).length : Int)) = ((r.length : Int) == (l.length : Int)) := by
   rw [Bool.eq_iff_iff]; simp
  simp only [List.map_cons, catsB, ← zipC_cats l r, hl, List.zipWith_cons_cons, List.all_cons, id, catC_N]
  cases ((r.length : Int) == (l.length : Int)) <;> simp

theorem genB_cats (sh : ByteArray) (named : Bool) (n : Int) (s : ByteArray) (c : List Tr) :
  genB sh named true n s c = ((if named then namedB n s else plainB n s) && catsB (sh.data.toList.map catN) c) := by
 have hz := zipC_cats sh.data.toList c
 have hl : ((sh.data.toList.length : Nat) : Int) = (sh.size : Int) := by simp
 rw [hl] at hz
 rw [← hz]
 unfold genB namedB plainB
 cases named
 ·cases (n == 0) <;> cases emptyB s <;> cases ((c.length : Int) == (sh.size : Int)) <;> simp
 ·cases hnm : nameB s
  ·simp
  ·have he : emptyB s = false := by
    unfold emptyB
    have h0 : 0 < s.size := by
     simp only [nameB, Bool.and_eq_true, decide_eq_true_eq] at hnm
     exact hnm.1.1.1.1
    exact (ne_of_pos h0).1
   rw [he]
   cases (n == 0) <;> cases ((c.length : Int) == (sh.size : Int)) <;> simp

theorem vees_list (m : Nat) (h : m ≤ 8) : (ByteArray.extract ⟨#[118, 118, 118, 118, 118, 118, 118, 118]⟩ 0 m).data.toList = List.replicate m 118 := by
 have : m = 0 ∨ m = 1 ∨ m = 2 ∨ m = 3 ∨ m = 4 ∨ m = 5 ∨ m = 6 ∨ m = 7 ∨ m = 8 := by omega
 rcases this with rfl | rfl | rfl | rfl | rfl | rfl | rfl | rfl | rfl <;> decide

theorem bytes_ok {sh : ByteArray} (h : ∀ b, b ∈ sh.data.toList → b = 101 ∨ b = 112 ∨ b = 98 ∨ b = 118) :
  ∀ (i : Nat) (hi : i < sh.size), (sh[i].toNat : Int) = 101 ∨ (sh[i].toNat : Int) = 112 ∨ (sh[i].toNat : Int) = 98 ∨ (sh[i].toNat : Int) = 118 := by
 intro i hi
 have hm : sh[i] ∈ sh.data.toList := by rw [← byte_at sh i hi (by simpa using hi)]; exact List.getElem_mem _
 rcases h _ hm with e | e | e | e <;> rw [e] <;> simp

set_option maxHeartbeats 1600000 in
theorem rStmt_of (t : Tr) (ihb : ∀ u, u ∈ t.kids → Tests 86 blockB u) : Tests 103 stmtB t := by
 cases t with
 | mk k n s c =>
 intro v w hr
 have hr' := hr
 simp only [Rep] at hr'
 obtain ⟨A, cap, rfl, hf, _⟩ := hr'
 simp only [Tr.kids] at ihb
 by_cases h40 : k = 40
 ·subst h40
  have h := rStmt_gen ⟨#[112, 101]⟩ false true 40 n s c A cap w (fun W _ => shape_40 n s c A cap W) (by decide) (bytes_ok (by decide)) ihb hr
  rw [genB_cats] at h
  simpa [stmtB, catN] using h
 by_cases h41 : k = 41
 ·subst h41
  have h := rStmt_gen ⟨#[112, 101]⟩ false true 41 n s c A cap w (fun W _ => shape_41 n s c A cap W) (by decide) (bytes_ok (by decide)) ihb hr
  rw [genB_cats] at h
  simpa [stmtB, catN] using h
 by_cases h42 : k = 42
 ·subst h42
  have h := rStmt_gen ⟨#[112, 101]⟩ false true 42 n s c A cap w (fun W _ => shape_42 n s c A cap W) (by decide) (bytes_ok (by decide)) ihb hr
  rw [genB_cats] at h
  simpa [stmtB, catN] using h
 by_cases h56 : k = 56
 ·subst h56
  have h := rStmt_gen ⟨#[112, 101]⟩ false true 56 n s c A cap w (fun W _ => shape_56 n s c A cap W) (by decide) (bytes_ok (by decide)) ihb hr
  rw [genB_cats] at h
  simpa [stmtB, catN] using h
 by_cases h43 : k = 43
 ·subst h43
  have h := rStmt_gen ⟨#[112, 112]⟩ false true 43 n s c A cap w (fun W _ => shape_43 n s c A cap W) (by decide) (bytes_ok (by decide)) ihb hr
  rw [genB_cats] at h
  simpa [stmtB, catN] using h
 by_cases h44 : k = 44
 ·subst h44
  have h := rStmt_gen ⟨#[112]⟩ true true 44 n s c A cap w (fun W _ => shape_44 n s c A cap W) (by decide) (bytes_ok (by decide)) ihb hr
  rw [genB_cats] at h
  simpa [stmtB, catN] using h
 by_cases h45 : k = 45
 ·subst h45
  have h := rStmt_gen ⟨#[112]⟩ true true 45 n s c A cap w (fun W _ => shape_45 n s c A cap W) (by decide) (bytes_ok (by decide)) ihb hr
  rw [genB_cats] at h
  simpa [stmtB, catN] using h
 by_cases h46 : k = 46
 ·subst h46
  have h := rStmt_gen ⟨#[112]⟩ false true 46 n s c A cap w (fun W _ => shape_46 n s c A cap W) (by decide) (bytes_ok (by decide)) ihb hr
  rw [genB_cats] at h
  simpa [stmtB, catN] using h
 by_cases h47 : k = 47
 ·subst h47
  have h := rStmt_gen ⟨#[112]⟩ false true 47 n s c A cap w (fun W _ => shape_47 n s c A cap W) (by decide) (bytes_ok (by decide)) ihb hr
  rw [genB_cats] at h
  simpa [stmtB, catN] using h
 by_cases h48 : k = 48
 ·subst h48
  have h := rStmt_gen ⟨#[112]⟩ false true 48 n s c A cap w (fun W _ => shape_48 n s c A cap W) (by decide) (bytes_ok (by decide)) ihb hr
  rw [genB_cats] at h
  simpa [stmtB, catN] using h
 by_cases h49 : k = 49
 ·subst h49
  have h := rStmt_gen ⟨#[112]⟩ false true 49 n s c A cap w (fun W _ => shape_49 n s c A cap W) (by decide) (bytes_ok (by decide)) ihb hr
  rw [genB_cats] at h
  simpa [stmtB, catN] using h
 by_cases h52 : k = 52
 ·subst h52
  have h := rStmt_gen ⟨#[101, 98, 98, 101]⟩ false true 52 n s c A cap w (fun W _ => shape_52 n s c A cap W) (by decide) (bytes_ok (by decide)) ihb hr
  rw [genB_cats] at h
  simpa [stmtB, catN] using h
 by_cases h53 : k = 53
 ·subst h53
  have h := rStmt_gen ⟨#[101, 98, 98, 101]⟩ false true 53 n s c A cap w (fun W _ => shape_53 n s c A cap W) (by decide) (bytes_ok (by decide)) ihb hr
  rw [genB_cats] at h
  simpa [stmtB, catN] using h
 by_cases h54 : k = 54
 ·subst h54
  have h := rStmt_gen ⟨#[101, 98, 101]⟩ true true 54 n s c A cap w (fun W _ => shape_54 n s c A cap W) (by decide) (bytes_ok (by decide)) ihb hr
  rw [genB_cats] at h
  simpa [stmtB, catN] using h
 by_cases h55 : k = 55
 ·subst h55
  have h := rStmt_gen ⟨#[98]⟩ true true 55 n s c A cap w (fun W _ => shape_55 n s c A cap W) (by decide) (bytes_ok (by decide)) ihb hr
  rw [genB_cats] at h
  simpa [stmtB, catN] using h
 by_cases h50 : k = 50
 ·subst h50
  by_cases h8 : c.length ≤ 8
  ·have hv := vees_list c.length h8
   have h := rStmt_gen (ByteArray.extract ⟨#[118, 118, 118, 118, 118, 118, 118, 118]⟩ 0 c.length) true true 50 n s c A cap w (fun W _ => shape_50 n s c A cap W h8) (by simp; omega) (bytes_ok (by rw [hv]; intro b hb; rw [List.eq_of_mem_replicate hb]; simp)) ihb hr
   rw [genB_cats, hv] at h
   have h8' : decide ((c.length : Int) ≤ 8) = true := by simp; omega
   simpa [stmtB, catN, List.map_replicate, h8'] using h
  ·have h := rStmt_gen ⟨#[]⟩ true false 50 n s c A cap w (fun W _ => shape_50_big n s c A cap W (by omega)) (by decide) (bytes_ok (by decide)) ihb hr
   have h8' : decide ((c.length : Int) ≤ 8) = false := by simp; omega
   have hg : genB ⟨#[]⟩ true false n s c = false := by simp [genB]
   rw [hg] at h
   simpa [stmtB, h8'] using h
 by_cases h51 : k = 51
 ·subst h51
  by_cases h8 : c.length ≤ 8
  ·have hv := vees_list c.length h8
   have h := rStmt_gen (ByteArray.extract ⟨#[118, 118, 118, 118, 118, 118, 118, 118]⟩ 0 c.length) true true 51 n s c A cap w (fun W _ => shape_51 n s c A cap W h8) (by simp; omega) (bytes_ok (by rw [hv]; intro b hb; rw [List.eq_of_mem_replicate hb]; simp)) ihb hr
   rw [genB_cats, hv] at h
   have h8' : decide ((c.length : Int) ≤ 8) = true := by simp; omega
   simpa [stmtB, catN, List.map_replicate, h8'] using h
  ·have h := rStmt_gen ⟨#[]⟩ true false 51 n s c A cap w (fun W _ => shape_51_big n s c A cap W (by omega)) (by decide) (bytes_ok (by decide)) ihb hr
   have h8' : decide ((c.length : Int) ≤ 8) = false := by simp; omega
   have hg : genB ⟨#[]⟩ true false n s c = false := by simp [genB]
   rw [hg] at h
   simpa [stmtB, h8'] using h
 have hst : stmtB (.mk k n s c) = false := by simp [stmtB, h40, h41, h42, h56, h43, h44, h45, h46, h47, h48, h49, h52, h53, h54, h55, h50, h51]
 have h := rStmt_gen ⟨#[]⟩ false false k n s c A cap w (fun W _ => shape_other k n s c A cap W (by simp [h40]) (by simp [h41]) (by simp [h42]) (by simp [h56]) (by simp [h43]) (by simp [h44]) (by simp [h45]) (by simp [h46]) (by simp [h47]) (by simp [h48]) (by simp [h49]) (by simp [h52]) (by simp [h53]) (by simp [h54]) (by simp [h55]) (by simp [h50]) (by simp [h51])) (by decide) (bytes_ok (by decide)) ihb hr
 have hg : genB ⟨#[]⟩ false false n s c = false := by simp [genB]
 rw [hg] at h
 rw [hst]
 exact h

set_option maxHeartbeats 800000 in
theorem rBlock_of (t : Tr) (ih : ∀ u, u ∈ t.kids → Tests 103 stmtB u) : Tests 86 blockB t := by
 cases t with
 | mk k n s c =>
 intro v w hr
 have hr' := hr
 simp only [Rep] at hr'
 obtain ⟨A, cap, rfl, hf, hrow⟩ := hr'
 simp only [Tr.kids] at ih
 have hl1 := hf.l1
 have hl2 := hf.c1
 have HI := Lib.hid ih
 have HROW := Lib.hid hrow
 clear ih hrow hr
 unfold nodeV
 cases hk : (k == 57)
 ·have hk' : (k != 57) = true := by simp [bne, hk]
  go_enter Try.func86, Try.ntmps86
  go_wp2_with fail
  go_ret
  exact ⟨by simp [blockB, hk], (Below.refl _ _).alloc (Nat.le_refl _) _⟩
 have hk' : (k != 57) = false := by simp [bne, hk]
 cases hn : (n == 0)
 ·have hn' : (n != 0) = true := by simp [bne, hn]
  go_enter Try.func86, Try.ntmps86
  go_wp2_with fail
  go_ret
  exact ⟨by simp [blockB, plainB, hn], (Below.refl _ _).alloc (Nat.le_refl _) _⟩
 have hn' : (n != 0) = false := by simp [bne, hn]
 cases hs : s.toList.isEmpty
 ·go_enter Try.func86, Try.ntmps86
  go_wp2_with fail
  go_ret
  exact ⟨by simp [blockB, plainB, emptyB, hs], (Below.refl _ _).alloc (Nat.le_refl _) _⟩
 have HB := Lib.hid (show blockB (.mk k n s c) = c.all stmtB by simp only [blockB, plainB, emptyB, hk, hn, hs, stmtsB_all]; rfl)
 go_enter Try.func86, Try.ntmps86
 go_wp2_with fail
 go_loopw [3] (fun i wr => ∃ j : Nat, j ≤ c.length ∧ i = .int .i64 j ∧ Hid ((c.take j).all stmtB = true) ∧ Below (w.heap.size + 1) (w.alloc (.cells #[.int .u8 k, .int .i64 n, .string s, .slice A c.length cap] 24)) wr) (fun i _ => c.length - (intOf i).toNat)
 case atStart => exact ⟨0, Nat.zero_le _, rfl, by simp [Hid], Below.refl _ _⟩
 case round =>
  obtain ⟨i, hi, rfl, hall, hbw⟩ := hrel
  have hbb : Below w.heap.size w wr := ((Below.refl _ _).alloc (Nat.le_refl _) _).trans (hbw.mono (by omega))
  obtain ⟨x0, x1, x2, x3⟩ := box_at (by simpa using hbw)
  by_cases hlt : i < c.length
  ·obtain ⟨b, off, A', cap', rfl, hbB, h0, h1, h2, h3, hk⟩ := (HROW.out.below hbb).kid i hlt
   have hmem : c[i] ∈ c := List.getElem_mem hlt
   have hws := hbb.size
   have HT := Lib.hid (show (c.take (i + 1)).all stmtB = ((c.take i).all stmtB && stmtB c[i]) by rw [Tr.take_snoc c i hlt, List.all_append]; simp)
   cases hp : stmtB c[i]
   ·have HP := Lib.hid hp
    clear hp
    go_wp2_with fail
    refine (HI.out _ hmem _ _ (hk.more hws)).mono ?_
    rw [HP.out]
    rintro e w1 ⟨rfl, hb1⟩
    have hb2 := hbb.trans (hb1.mono hws)
    clear hb1
    go_wp2_with fail
    go_ret
    have hf : c.all stmtB = false := by
     rw [List.all_eq_false]
     exact ⟨_, hmem, by rw [HP.out]; simp⟩
    exact ⟨by simp [HB.out, hf], hb2⟩
   ·have HP := Lib.hid hp
    clear hp
    go_wp2_with fail
    refine (HI.out _ hmem _ _ (hk.more hws)).mono ?_
    rw [HP.out]
    rintro e w1 ⟨rfl, hb1⟩
    have hb2 := hbw.trans (hb1.mono (by have := hbw.size; simp at this; omega))
    clear hb1
    go_wp2_with fail
    go_roundw
    case rel => exact ⟨i + 1, by omega, by go_num, by rw [Hid, HT.out, hall.out, HP.out]; rfl, hb2⟩
    case measure => simp [intOf]; omega
  ·obtain rfl : i = c.length := by omega
   go_wp2_with fail
   go_ret
   have h := hall.out
   rw [List.take_length] at h
   exact ⟨by simp [HB.out, h], hbb⟩

theorem rBoth (t : Tr) : Tests 103 stmtB t ∧ Tests 86 blockB t := by
 induction t using Tr.ind with
 | h k n s c ih => exact ⟨rStmt_of _ fun u hu => (ih u hu).2, rBlock_of _ fun u hu => (ih u hu).1⟩
theorem rStmt_any (t : Tr) : Tests 103 stmtB t := (rBoth t).1
theorem rBlock_any (t : Tr) : Tests 86 blockB t := (rBoth t).2

end Go.Proofs.Ytlpgapmbajblmaa

/- count, Big, Size, Depth. -/
namespace Go.Proofs.Ytlpgapmbajblmaa
open Go.RowKit Go.Shelf

mutual
def cnt : Tr → Nat → Int
 | .mk _ _ _ c, d => if d = 0 then -1 else cntL c (d - 1) 1
def cntL : List Tr → Nat → Int → Int
 | [], _, s => s
 | t :: r, d, s => if cnt t d < 0 ∨ 1000 < s then -1 else cntL r d (s + cnt t d)
end

mutual
theorem cnt_bd : ∀ (t : Tr) (d : Nat), -1 ≤ cnt t d ∧ cnt t d ≤ 1000 * d + 1
 | .mk _ _ _ c, d => by
  unfold cnt
  by_cases h : d = 0
  ·rw [if_pos h]; omega
  ·rw [if_neg h]
   have := cntL_bd c (d - 1) 1 (by omega) (by omega)
   omega
theorem cntL_bd : ∀ (c : List Tr) (d : Nat) (s : Int), 0 ≤ s → s ≤ 1000 * d + 1001 → -1 ≤ cntL c d s ∧ cntL c d s ≤ 1000 * d + 1001
 | [], d, s, h0, h1 => by unfold cntL; omega
 | t :: r, d, s, h0, h1 => by
  unfold cntL
  have ht := cnt_bd t d
  by_cases h : cnt t d < 0 ∨ 1000 < s
  ·rw [if_pos h]; omega
  ·rw [if_neg h]
   exact cntL_bd r d _ (by omega) (by omega)
end

mutual
theorem cnt_size : ∀ (t : Tr) (d : Nat), 0 ≤ cnt t d → cnt t d = t.size ∧ t.depth ≤ d
 | .mk _ _ _ c, d, h => by
  unfold cnt at h ⊢
  by_cases hd : d = 0
  ·rw [if_pos hd] at h; omega
  ·rw [if_neg hd] at h ⊢
   have := cntL_size c (d - 1) 1 h
   simp only [Tr.size, Tr.depth]
   omega
theorem cntL_size : ∀ (c : List Tr) (d : Nat) (s : Int), 0 ≤ cntL c d s → cntL c d s = s + Tr.sizes c ∧ Tr.depths c ≤ d
 | [], d, s, h => by simp [cntL, Tr.sizes, Tr.depths]
 | t :: r, d, s, h => by
  unfold cntL at h ⊢
  by_cases hc : cnt t d < 0 ∨ 1000 < s
  ·rw [if_pos hc] at h; omega
  ·rw [if_neg hc] at h ⊢
   have h1 := cntL_size r d _ h
   have h2 := cnt_size t d (by omega)
   simp only [Tr.sizes, Tr.depths]
   omega
end

def bigB (t : Tr) : Bool := decide (cnt t 100 < 0) || decide (400 < cnt t 100)
theorem bigB_no {t : Tr} (h : bigB t = false) : t.size ≤ 400 ∧ t.depth ≤ 100 := by
 simp only [bigB, Bool.or_eq_false_iff, decide_eq_false_iff_not] at h
 have := cnt_size t 100 (by omega)
 omega

set_option maxHeartbeats 800000 in
theorem count_any (t : Tr) : ∀ (d : Nat) (dI : Int) (v : Value) (w : World), dI = d → d ≤ 100 → Rep w w.heap.size t v →
  Calls Try.prog 37 #[v, .int .i64 dI] w fun e w' => e = .returned (.int .i64 (cnt t d)) ∧ Below w.heap.size w w' := by
 induction t using Tr.ind with
 | h k n s c ih =>
 intro d dI v w hdI hd hr
 simp only [Rep] at hr
 obtain ⟨A, cap, rfl, hf, hrow⟩ := hr
 have hl1 := hf.l1
 have hl2 := hf.c1
 have HROW := Lib.hid hrow
 have HI := Lib.hid ih
 clear hrow ih
 unfold nodeV
 by_cases h0 : d = 0
 ·have hz : dI < 1 := by omega
  have HZ := Lib.hid (show cnt (.mk k n s c) d = -1 by simp [cnt, h0])
  clear hdI h0
  go_enter Try.func37, Try.ntmps37
  go_wp2_with fail
  go_ret
  exact ⟨by simp [HZ.out], (Below.refl _ _).alloc (Nat.le_refl _) _⟩
 ·have hz : 1 ≤ dI := by omega
  have hz2 : dI ≤ 100 := by omega
  have HZ := Lib.hid (show cnt (.mk k n s c) d = cntL c (d - 1) 1 by simp [cnt, h0])
  have HD := Lib.hid (show dI - 1 = ((d - 1 : Nat) : Int) by omega)
  have hd1 : d - 1 ≤ 100 := by omega
  clear hdI h0
  go_enter Try.func37, Try.ntmps37
  go_wp2_with fail
  go_loopw [5, 6] (fun s5 i wr => ∃ (j : Nat) (a : Int), j ≤ c.length ∧ i = .int .i64 j ∧ s5 = .int .i64 a ∧ 0 ≤ a ∧ a ≤ 200000 ∧ Hid (cntL c (d - 1) 1 = cntL (c.drop j) (d - 1) a) ∧ Below (w.heap.size + 1) (w.alloc (.cells #[.int .u8 k, .int .i64 n, .string s, .slice A c.length cap] 24)) wr) (fun _ i _ => c.length - (intOf i).toNat)
  case atStart => exact ⟨0, 1, Nat.zero_le _, rfl, rfl, by omega, by omega, rfl, Below.refl _ _⟩
  case round =>
   obtain ⟨i, a, hi, rfl, rfl, ha0, ha1, hcnt, hbw⟩ := hrel
   have hbb : Below w.heap.size w wr := ((Below.refl _ _).alloc (Nat.le_refl _) _).trans (hbw.mono (by omega))
   obtain ⟨x0, x1, x2, x3⟩ := box_at (by simpa using hbw)
   by_cases hlt : i < c.length
   ·obtain ⟨b, off, A', cap', rfl, hbB, h0, h1, h2, h3, hk⟩ := (HROW.out.below hbb).kid i hlt
    have hmem : c[i] ∈ c := List.getElem_mem hlt
    have hws := hbb.size
    have hbd := cnt_bd c[i] (d - 1)
    have hbd0 := hbd.1
    have hbd1 : cnt c[i] (d - 1) ≤ 100001 := by omega
    have HST := Lib.hid (show cntL (c.drop i) (d - 1) a = if cnt c[i] (d - 1) < 0 ∨ 1000 < a then -1 else cntL (c.drop (i + 1)) (d - 1) (a + cnt c[i] (d - 1)) by
     rw [List.drop_eq_getElem_cons hlt]; simp only [cntL])
    clear hbd
    go_wp2_with fail
    refine (HI.out _ hmem (d - 1) _ _ _ HD.out hd1 (hk.more hws)).mono ?_
    rintro e w1 ⟨rfl, hb1⟩
    have hb2 := hbw.trans (hb1.mono (by have := hbw.size; simp at this; omega))
    clear hb1
    by_cases hneg : cnt c[i] (d - 1) < 0
    ·go_wp2_with fail
     go_ret
     exact ⟨by rw [HZ.out, hcnt.out, HST.out, if_pos (.inl hneg)]; rfl, ((Below.refl _ _).alloc (Nat.le_refl _) _).trans (hb2.mono (by omega))⟩
    ·by_cases hbig : 1000 < a
     ·have hneg' : 0 ≤ cnt c[i] (d - 1) := by omega
      go_wp2_with fail
      go_ret
      exact ⟨by rw [HZ.out, hcnt.out, HST.out, if_pos (.inr hbig)]; rfl, ((Below.refl _ _).alloc (Nat.le_refl _) _).trans (hb2.mono (by omega))⟩
     ·have hneg' : 0 ≤ cnt c[i] (d - 1) := by omega
      have hbig' : a ≤ 1000 := by omega
      go_wp2_with fail
      go_roundw
      case rel => exact ⟨i + 1, _, by omega, by go_num, rfl, by omega, by omega, by rw [Hid, hcnt.out, HST.out, if_neg (by omega)], hb2⟩
      case measure => simp [intOf]; omega
   ·obtain rfl : i = c.length := by omega
    go_wp2_with fail
    go_ret
    exact ⟨by rw [HZ.out, hcnt.out, List.drop_length]; rfl, hbb⟩

set_option maxHeartbeats 400000 in
theorem big_any (t : Tr) : Tests 12 bigB t := by
 cases t with
 | mk k n s c =>
 intro v w hr
 have hr' := hr
 simp only [Rep] at hr'
 obtain ⟨A, cap, rfl, hf, _⟩ := hr'
 have HC := Lib.hid (count_any _ 100 100 _ _ rfl (Nat.le_refl _) (hr.alloc (Nat.le_refl _) (.cells #[.int .u8 k, .int .i64 n, .string s, .slice A c.length cap] 24)))
 have HR := Lib.hid hr
 clear hr
 unfold nodeV at *
 by_cases h1 : cnt (.mk k n s c) 100 < 0
 ·go_enter Try.func12, Try.ntmps12
  go_wp2_with fail
  refine HC.out.mono ?_
  rintro e w1 ⟨rfl, hb1⟩
  have hb2 := ((Below.refl _ w).alloc (Nat.le_refl _) _).trans (hb1.mono (by simp))
  clear hb1
  go_wp2_with fail
  go_ret
  exact ⟨by simp [bigB, h1], hb2⟩
 ·have h1' : 0 ≤ cnt (.mk k n s c) 100 := by omega
  go_enter Try.func12, Try.ntmps12
  go_wp2_with fail
  refine HC.out.mono ?_
  rintro e w1 ⟨rfl, hb1⟩
  have hb2 := ((Below.refl _ w).alloc (Nat.le_refl _) _).trans (hb1.mono (by simp))
  obtain ⟨x0, x1, x2, x3⟩ := box_at hb1
  have HR1 := Lib.hid (HR.out.at_ (Nat.le_refl _) hb2)
  clear hb1
  go_wp2_with fail
  refine (count_any _ 100 _ _ _ rfl (Nat.le_refl _) HR1.out).mono ?_
  rintro e w2 ⟨rfl, hb3⟩
  have hb4 := hb2.trans (hb3.mono hb2.size)
  clear hb3
  go_wp2_with fail
  go_ret
  exact ⟨by simp [bigB], hb4⟩

set_option maxHeartbeats 400000 in
theorem rsize_any (t : Tr) : ∀ (v : Value) (w : World), Rep w w.heap.size t v → t.size ≤ 4611686018427387904 →
  Calls Try.prog 88 #[v] w fun e w' => e = .returned (.int .i64 t.size) ∧ Below w.heap.size w w' := by
 induction t using Tr.ind with
 | h k n s c ih =>
  intro v w hr hsz
  simp only [Rep] at hr
  obtain ⟨A, cap, rfl, hf, hrow⟩ := hr
  have hl := hf.l1
  have hc := hf.c1
  have HR := Lib.hid hrow
  have IH := Lib.hid ih
  clear hrow ih
  unfold nodeV
  simp only [Tr.size] at hsz
  go_enter Try.func88, Try.ntmps88
  go_wp2_with fail
  go_loopw [3, 4] (fun s3 s9 wr => ∃ i : Nat, i ≤ c.length ∧ s9 = .int .i64 i ∧ s3 = .int .i64 ((Tr.sizes (c.take i) + 1 : Nat) : Int) ∧ Below (w.heap.size + 1) (w.alloc (.cells #[.int .u8 k, .int .i64 n, .string s, .slice A c.length cap] 24)) wr)
   (fun _ s9 _ => c.length - (intOf s9).toNat)
  case atStart => exact ⟨0, Nat.zero_le _, rfl, by simp [Tr.sizes], Below.refl _ _⟩
  case round =>
   obtain ⟨i, hi, rfl, rfl, hb⟩ := hrel
   have hbb : Below w.heap.size w wr := ((Below.refl _ _).alloc (Nat.le_refl _) _).trans (hb.mono (by omega))
   obtain ⟨x0, x1, x2, x3⟩ := box_at (by simpa using hb)
   have hle := Tr.sizes_take_le c i
   by_cases hlt : i < c.length
   ·obtain ⟨b, off, A', cap', rfl, hbB, h0, h1, h2, h3, hk⟩ := (HR.out.below hbb).kid i hlt
    have htk := Tr.sizes_take c i hlt
    have hmem : c[i] ∈ c := List.getElem_mem hlt
    have hsz1 := Tr.size_le_of_mem hmem
    have HTK := Lib.hid htk
    clear htk
    have hws := hbb.size
    go_wp2_with fail
    refine (IH.out _ hmem _ _ (hk.more hws) (by omega)).mono ?_
    rintro e w1 ⟨rfl, hb1⟩
    have hb2 := hb.trans (hb1.mono (by have := hb.size; simp at this; omega))
    clear hb1
    go_wp2_with fail
    go_roundw
    case rel => exact ⟨i + 1, by omega, by go_num, by rw [HTK.out]; go_num, hb2⟩
    case measure => simp [intOf]; omega
   ·go_wp2_with fail
    go_ret
    obtain rfl : i = c.length := by omega
    exact ⟨by simp [Tr.size], hbb⟩

set_option maxHeartbeats 400000 in
theorem depth_any (t : Tr) : ∀ (v : Value) (w : World), Rep w w.heap.size t v → t.depth ≤ 4611686018427387904 →
  Calls Try.prog 35 #[v] w fun e w' => e = .returned (.int .i64 t.depth) ∧ Below w.heap.size w w' := by
 induction t using Tr.ind with
 | h k n s c ih =>
  intro v w hr hsz
  simp only [Rep] at hr
  obtain ⟨A, cap, rfl, hf, hrow⟩ := hr
  have hl := hf.l1
  have hc := hf.c1
  have HR := Lib.hid hrow
  have IH := Lib.hid ih
  clear hrow ih
  unfold nodeV
  simp only [Tr.depth] at hsz
  go_enter Try.func35, Try.ntmps35
  go_wp2_with fail
  go_loopw [3, 9] (fun s3 s9 wr => ∃ i : Nat, i ≤ c.length ∧ s9 = .int .i64 i ∧ s3 = .int .i64 ((Tr.depths (c.take i) : Nat) : Int) ∧ Below (w.heap.size + 1) (w.alloc (.cells #[.int .u8 k, .int .i64 n, .string s, .slice A c.length cap] 24)) wr)
   (fun _ s9 _ => c.length - (intOf s9).toNat)
  case atStart => exact ⟨0, Nat.zero_le _, rfl, by simp [Tr.depths], Below.refl _ _⟩
  case round =>
   obtain ⟨i, hi, rfl, rfl, hb⟩ := hrel
   have hbb : Below w.heap.size w wr := ((Below.refl _ _).alloc (Nat.le_refl _) _).trans (hb.mono (by omega))
   obtain ⟨x0, x1, x2, x3⟩ := box_at (by simpa using hb)
   have hle := Tr.depths_take_le c i
   by_cases hlt : i < c.length
   ·obtain ⟨b, off, A', cap', rfl, hbB, h0, h1, h2, h3, hk⟩ := (HR.out.below hbb).kid i hlt
    have htk := Tr.depths_take c i hlt
    have hmem : c[i] ∈ c := List.getElem_mem hlt
    have hsz1 := Tr.depth_le_of_mem hmem
    have HTK := Lib.hid htk
    clear htk
    have hws := hbb.size
    go_wp2_with fail
    refine (IH.out _ hmem _ _ (hk.alloc hws _) (by omega)).mono ?_
    rintro e w1 ⟨rfl, hb1⟩
    have hb2 := (hb.alloc (by have := hb.size; simp at this; omega) _).trans (hb1.mono (by have := hb.size; simp at this ⊢; omega))
    clear hb1
    go_wp2_with fail
    go_roundw
    case rel => exact ⟨i + 1, by omega, by go_num, by rw [HTK.out]; first | go_num | (congr 1; omega) | (simp; omega), hb2⟩
    case measure => simp [intOf]; omega
   ·go_wp2_with fail
    go_ret
    obtain rfl : i = c.length := by omega
    exact ⟨by simp [Tr.depth], hbb⟩

set_option maxHeartbeats 400000 in
theorem rdepth_any (t : Tr) : ∀ (v : Value) (w : World), Rep w w.heap.size t v → t.depth ≤ 4611686018427387904 →
  Calls Try.prog 87 #[v] w fun e w' => e = .returned (.int .i64 t.depth) ∧ Below w.heap.size w w' := by
 induction t using Tr.ind with
 | h k n s c ih =>
  intro v w hr hsz
  simp only [Rep] at hr
  obtain ⟨A, cap, rfl, hf, hrow⟩ := hr
  have hl := hf.l1
  have hc := hf.c1
  have HR := Lib.hid hrow
  have IH := Lib.hid ih
  clear hrow ih
  unfold nodeV
  simp only [Tr.depth] at hsz
  go_enter Try.func87, Try.ntmps87
  go_wp2_with fail
  go_loopw [3, 4] (fun s3 s9 wr => ∃ i : Nat, i ≤ c.length ∧ s9 = .int .i64 i ∧ s3 = .int .i64 ((Tr.depths (c.take i) : Nat) : Int) ∧ Below (w.heap.size + 1) (w.alloc (.cells #[.int .u8 k, .int .i64 n, .string s, .slice A c.length cap] 24)) wr)
   (fun _ s9 _ => c.length - (intOf s9).toNat)
  case atStart => exact ⟨0, Nat.zero_le _, rfl, by simp [Tr.depths], Below.refl _ _⟩
  case round =>
   obtain ⟨i, hi, rfl, rfl, hb⟩ := hrel
   have hbb : Below w.heap.size w wr := ((Below.refl _ _).alloc (Nat.le_refl _) _).trans (hb.mono (by omega))
   obtain ⟨x0, x1, x2, x3⟩ := box_at (by simpa using hb)
   have hle := Tr.depths_take_le c i
   by_cases hlt : i < c.length
   ·obtain ⟨b, off, A', cap', rfl, hbB, h0, h1, h2, h3, hk⟩ := (HR.out.below hbb).kid i hlt
    have htk := Tr.depths_take c i hlt
    have hmem : c[i] ∈ c := List.getElem_mem hlt
    have hsz1 := Tr.depth_le_of_mem hmem
    have HTK := Lib.hid htk
    clear htk
    have hws := hbb.size
    go_wp2_with fail
    refine (IH.out _ hmem _ _ (hk.more hws) (by omega)).mono ?_
    rintro e w1 ⟨rfl, hb1⟩
    have hb2 := hb.trans (hb1.mono (by have := hb.size; simp at this; omega))
    clear hb1
    go_wp2_with fail
    go_roundw
    case rel => exact ⟨i + 1, by omega, by go_num, by rw [HTK.out]; first | go_num | (congr 1; omega) | (simp; omega), hb2⟩
    case measure => simp [intOf]; omega
   ·go_wp2_with fail
    go_ret
    obtain rfl : i = c.length := by omega
    exact ⟨by simp [Tr.depth], hbb⟩

end Go.Proofs.Ytlpgapmbajblmaa
