/- Valid expressions: the walk of the reference. -/
import Derived.Test.YtlpgapmbajblmaaKinds
import Derived.Test.YtlpgapmbajblmaaName3
namespace Go.Proofs.Ytlpgapmbajblmaa
open Go.RowKit Go.Shelf

theorem Rep.row {w : World} {B : Nat} {k n : Int} {s : ByteArray} {c : List Tr} {A : Option Addr} {cap len : Nat} (hr : Rep w B (.mk k n s c) (nodeV k n s A len cap)) : len = c.length ∧ Fits k n s c.length cap ∧ RepRow w B c A 0 := by
  simp only [Rep] at hr
  obtain ⟨A', cap', he, hf, hrow⟩ := hr
  simp only [nodeV, Value.agg.injEq, Array.mk.injEq, List.cons.injEq, Value.slice.injEq, true_and, and_true] at he
  obtain ⟨rfl, hl, rfl⟩ := he
  exact ⟨hl, hf, hrow⟩

set_option maxHeartbeats 400000 in
theorem rExpr_1 (n : Int) (s : ByteArray) (c : List Tr) (A : Option Addr) (cap : Nat) (w : World)
    (_hr : Rep w w.heap.size (.mk 1 n s c) (nodeV 1 n s A c.length cap)) :
    Calls Try.prog 20 #[nodeV 1 n s A c.length cap] w fun e w' => e = .returned (.bool (decide (0 ≤ n) && emptyB s && lenB c 0)) ∧ Below w.heap.size w w' := by
  unfold nodeV emptyB lenB
  clear _hr
  cases hn : decide (0 ≤ n)
  · go_enter Try.func20, Try.ntmps20
    go_wp2_with fail
    go_ret
    exact ⟨by simp, (Below.refl _ _).alloc (Nat.le_refl _) _⟩
  · cases hs : s.toList.isEmpty
    · go_enter Try.func20, Try.ntmps20
      go_wp2_with fail
      go_ret
      exact ⟨by simp, (Below.refl _ _).alloc (Nat.le_refl _) _⟩
    · go_enter Try.func20, Try.ntmps20
      go_wp2_with fail
      go_ret
      exact ⟨by simp, (Below.refl _ _).alloc (Nat.le_refl _) _⟩

set_option maxHeartbeats 400000 in
theorem rExpr_2 (n : Int) (s : ByteArray) (c : List Tr) (A : Option Addr) (cap : Nat) (w : World)
    (hr : Rep w w.heap.size (.mk 2 n s c) (nodeV 2 n s A c.length cap)) :
    Calls Try.prog 20 #[nodeV 2 n s A c.length cap] w fun e w' => e = .returned (.bool (namedB n s && lenB c 0)) ∧ Below w.heap.size w w' := by
  obtain ⟨_, hf, _⟩ := hr.row
  have hs1 := hf.s1
  unfold nodeV lenB namedB
  clear hr
  cases hn : (n == 0)
  · go_enter Try.func20, Try.ntmps20
    go_wp2_with fail
    go_ret
    exact ⟨by simp, (Below.refl _ _).alloc (Nat.le_refl _) _⟩
  cases hnm : nameB s
  · have H := Lib.hid hnm
    clear hnm
    go_enter Try.func20, Try.ntmps20
    go_wp2_with fail
    refine (rname_any s hs1 _).mono ?_
    rintro e w1 ⟨rfl, hb1⟩
    rw [H.out]
    have hb2 := ((Below.refl _ w).alloc (Nat.le_refl _) _).trans (hb1.mono (by simp))
    obtain ⟨x0, x1, x2, x3⟩ := box_at hb1
    have hb1s := hb1.size
    clear hb1
    go_wp2_with fail
    go_ret
    exact ⟨by simp, hb2⟩
  · have H := Lib.hid hnm
    clear hnm
    go_enter Try.func20, Try.ntmps20
    go_wp2_with fail
    refine (rname_any s hs1 _).mono ?_
    rintro e w1 ⟨rfl, hb1⟩
    rw [H.out]
    have hb2 := ((Below.refl _ w).alloc (Nat.le_refl _) _).trans (hb1.mono (by simp))
    obtain ⟨x0, x1, x2, x3⟩ := box_at hb1
    have hb1s := hb1.size
    clear hb1
    go_wp2_with fail
    go_ret
    exact ⟨by simp, hb2⟩

set_option maxHeartbeats 400000 in
theorem rExpr_4 (n : Int) (s : ByteArray) (c : List Tr) (A : Option Addr) (cap : Nat) (w : World)
    (hr : Rep w w.heap.size (.mk 4 n s c) (nodeV 4 n s A c.length cap)) :
    Calls Try.prog 20 #[nodeV 4 n s A c.length cap] w fun e w' => e = .returned (.bool (namedB n s && lenB c 0)) ∧ Below w.heap.size w w' := by
  obtain ⟨_, hf, _⟩ := hr.row
  have hs1 := hf.s1
  unfold nodeV lenB namedB
  clear hr
  cases hn : (n == 0)
  · go_enter Try.func20, Try.ntmps20
    go_wp2_with fail
    go_ret
    exact ⟨by simp, (Below.refl _ _).alloc (Nat.le_refl _) _⟩
  cases hnm : nameB s
  · have H := Lib.hid hnm
    clear hnm
    go_enter Try.func20, Try.ntmps20
    go_wp2_with fail
    refine (rname_any s hs1 _).mono ?_
    rintro e w1 ⟨rfl, hb1⟩
    rw [H.out]
    have hb2 := ((Below.refl _ w).alloc (Nat.le_refl _) _).trans (hb1.mono (by simp))
    obtain ⟨x0, x1, x2, x3⟩ := box_at hb1
    have hb1s := hb1.size
    clear hb1
    go_wp2_with fail
    go_ret
    exact ⟨by simp, hb2⟩
  · have H := Lib.hid hnm
    clear hnm
    go_enter Try.func20, Try.ntmps20
    go_wp2_with fail
    refine (rname_any s hs1 _).mono ?_
    rintro e w1 ⟨rfl, hb1⟩
    rw [H.out]
    have hb2 := ((Below.refl _ w).alloc (Nat.le_refl _) _).trans (hb1.mono (by simp))
    obtain ⟨x0, x1, x2, x3⟩ := box_at hb1
    have hb1s := hb1.size
    clear hb1
    go_wp2_with fail
    go_ret
    exact ⟨by simp, hb2⟩

set_option maxHeartbeats 400000 in
theorem rExpr_5 (n : Int) (s : ByteArray) (c : List Tr) (A : Option Addr) (cap : Nat) (w : World)
    (hr : Rep w w.heap.size (.mk 5 n s c) (nodeV 5 n s A c.length cap)) :
    Calls Try.prog 20 #[nodeV 5 n s A c.length cap] w fun e w' => e = .returned (.bool (namedB n s && lenB c 0)) ∧ Below w.heap.size w w' := by
  obtain ⟨_, hf, _⟩ := hr.row
  have hs1 := hf.s1
  unfold nodeV lenB namedB
  clear hr
  cases hn : (n == 0)
  · go_enter Try.func20, Try.ntmps20
    go_wp2_with fail
    go_ret
    exact ⟨by simp, (Below.refl _ _).alloc (Nat.le_refl _) _⟩
  cases hnm : nameB s
  · have H := Lib.hid hnm
    clear hnm
    go_enter Try.func20, Try.ntmps20
    go_wp2_with fail
    refine (rname_any s hs1 _).mono ?_
    rintro e w1 ⟨rfl, hb1⟩
    rw [H.out]
    have hb2 := ((Below.refl _ w).alloc (Nat.le_refl _) _).trans (hb1.mono (by simp))
    obtain ⟨x0, x1, x2, x3⟩ := box_at hb1
    have hb1s := hb1.size
    clear hb1
    go_wp2_with fail
    go_ret
    exact ⟨by simp, hb2⟩
  · have H := Lib.hid hnm
    clear hnm
    go_enter Try.func20, Try.ntmps20
    go_wp2_with fail
    refine (rname_any s hs1 _).mono ?_
    rintro e w1 ⟨rfl, hb1⟩
    rw [H.out]
    have hb2 := ((Below.refl _ w).alloc (Nat.le_refl _) _).trans (hb1.mono (by simp))
    obtain ⟨x0, x1, x2, x3⟩ := box_at hb1
    have hb1s := hb1.size
    clear hb1
    go_wp2_with fail
    go_ret
    exact ⟨by simp, hb2⟩

set_option maxHeartbeats 800000 in
theorem rExpr_3 (n : Int) (s : ByteArray) (c : List Tr) (A : Option Addr) (cap : Nat) (w : World) (ih : ∀ t, t ∈ c → Tests 20 exprB t)
    (hr : Rep w w.heap.size (.mk 3 n s c) (nodeV 3 n s A c.length cap)) :
    Calls Try.prog 20 #[nodeV 3 n s A c.length cap] w fun e w' => e = .returned (.bool (namedB n s && lenB c 1 && c.all exprB)) ∧ Below w.heap.size w w' := by
  obtain ⟨_, hf, hrow⟩ := hr.row
  have hs1 := hf.s1
  have HROW := Lib.hid hrow
  have HI := Lib.hid ih
  unfold nodeV lenB namedB
  clear hr hrow ih
  cases hn : (n == 0)
  · go_enter Try.func20, Try.ntmps20
    go_wp2_with fail
    go_ret
    exact ⟨by simp, (Below.refl _ _).alloc (Nat.le_refl _) _⟩
  cases hnm : nameB s
  · have H := Lib.hid hnm
    clear hnm
    go_enter Try.func20, Try.ntmps20
    go_wp2_with fail
    refine (rname_any s hs1 _).mono ?_
    rintro e w1 ⟨rfl, hb1⟩
    rw [H.out]
    have hb2 := ((Below.refl _ w).alloc (Nat.le_refl _) _).trans (hb1.mono (by simp))
    obtain ⟨x0, x1, x2, x3⟩ := box_at hb1
    have hb1s := hb1.size
    clear hb1
    go_wp2_with fail
    go_ret
    exact ⟨by simp, hb2⟩
  have H := Lib.hid hnm
  clear hnm
  cases hl : ((c.length : Int) == 1)
  · go_enter Try.func20, Try.ntmps20
    go_wp2_with fail
    refine (rname_any s hs1 _).mono ?_
    rintro e w1 ⟨rfl, hb1⟩
    rw [H.out]
    have hb2 := ((Below.refl _ w).alloc (Nat.le_refl _) _).trans (hb1.mono (by simp))
    obtain ⟨x0, x1, x2, x3⟩ := box_at hb1
    have hb1s := hb1.size
    clear hb1
    go_wp2_with fail
    go_ret
    exact ⟨by simp, hb2⟩
  · have hlen : c.length = 1 := by have hh := hl; simp at hh; omega
    have h0 : 0 < c.length := by omega
    obtain ⟨b, off, A', cap', rfl, hbB, g0, g1, g2, g3, hk⟩ := HROW.out.kid 0 h0
    have hmem : c[0] ∈ c := List.getElem_mem h0
    have HALL := Lib.hid (show c.all exprB = exprB c[0] by
      match c, hlen with
      | [t], _ => simp)
    have HK := Lib.hid hk
    simp only [Nat.zero_mul, Nat.add_zero] at g0 g1 g2 g3
    clear hlen hk
    go_enter Try.func20, Try.ntmps20
    go_wp2_with fail
    refine (rname_any s hs1 _).mono ?_
    rintro e w1 ⟨rfl, hb1⟩
    rw [H.out]
    have hb2 := ((Below.refl _ w).alloc (Nat.le_refl _) _).trans (hb1.mono (by simp))
    obtain ⟨x0, x1, x2, x3⟩ := box_at hb1
    have hb1s := hb1.size
    clear hb1
    have y0 := (hb2.cell (p := ⟨b, off, none⟩) hbB).trans g0
    have y1 := (hb2.cell (p := ⟨b, off + 1, none⟩) hbB).trans g1
    have y2 := (hb2.cell (p := ⟨b, off + 2, none⟩) hbB).trans g2
    have y3 := (hb2.cell (p := ⟨b, off + 3, none⟩) hbB).trans g3
    clear g0 g1 g2 g3
    go_wp2_with fail
    refine (HI.out _ hmem _ _ (HK.out.at_ (Nat.le_refl _) hb2)).mono ?_
    rintro e w2 ⟨rfl, hb3⟩
    have hb4 := hb2.trans (hb3.mono hb2.size)
    clear hb3
    go_wp2_with fail
    go_ret
    exact ⟨by rw [HALL.out]; simp, hb4⟩

set_option maxHeartbeats 1600000 in
theorem rExpr_6 (n : Int) (s : ByteArray) (c : List Tr) (A : Option Addr) (cap : Nat) (w : World) (ih : ∀ t, t ∈ c → Tests 20 exprB t)
    (hr : Rep w w.heap.size (.mk 6 n s c) (nodeV 6 n s A c.length cap)) :
    Calls Try.prog 20 #[nodeV 6 n s A c.length cap] w fun e w' => e = .returned (.bool (plainB n s && lenB c 1 && c.all exprB)) ∧ Below w.heap.size w w' := by
  obtain ⟨_, hf, hrow⟩ := hr.row
  have hl1 := hf.l1
  have hl2 := hf.c1
  have HROW := Lib.hid hrow
  have HI := Lib.hid ih
  unfold nodeV lenB plainB emptyB
  clear hr hrow ih
  cases hn : (n == 0)
  · have hn' : (n != 0) = true := by simp [bne, hn]
    go_enter Try.func20, Try.ntmps20
    go_wp2_with fail
    go_ret
    exact ⟨by simp, (Below.refl _ _).alloc (Nat.le_refl _) _⟩
  have hn' : (n != 0) = false := by simp [bne, hn]
  cases hs : s.toList.isEmpty
  · go_enter Try.func20, Try.ntmps20
    go_wp2_with fail
    go_ret
    exact ⟨by simp, (Below.refl _ _).alloc (Nat.le_refl _) _⟩
  cases hl : ((c.length : Int) == 1)
  · have hl' : ((c.length : Int) != 1) = true := by simp [bne, hl]
    go_enter Try.func20, Try.ntmps20
    go_wp2_with fail
    go_ret
    exact ⟨by simp, (Below.refl _ _).alloc (Nat.le_refl _) _⟩
  have hl' : ((c.length : Int) != 1) = false := by simp [bne, hl]
  have hlen : c.length = 1 := by have hh := hl; simp at hh; omega
  have hle1 : c.length ≤ 1 := by omega
  have hle2 : 1 ≤ c.length := by omega
  have HL := Lib.hid hlen
  clear hlen
  go_enter Try.func20, Try.ntmps20
  go_wp2_with fail
  go_loopw [4] (fun i wr => ∃ j : Nat, j ≤ 1 ∧ i = .int .i64 j ∧ Hid ((c.take j).all exprB = true) ∧ Below (w.heap.size + 1) (w.alloc (.cells #[.int .u8 6, .int .i64 n, .string s, .slice A c.length cap] 24)) wr) (fun i _ => 1 - (intOf i).toNat)
  case atStart => exact ⟨0, Nat.zero_le _, rfl, by simp [Hid], Below.refl _ _⟩
  case round =>
    obtain ⟨i, hi, rfl, hall, hbw⟩ := hrel
    have hbb : Below w.heap.size w wr := ((Below.refl _ _).alloc (Nat.le_refl _) _).trans (hbw.mono (by omega))
    by_cases hlt : i < 1
    · have hlt' : i < c.length := by omega
      obtain ⟨b, off, A', cap', rfl, hbB, h0, h1, h2, h3, hk⟩ := (HROW.out.below hbb).kid i hlt'
      have hmem : c[i] ∈ c := List.getElem_mem hlt'
      have hws := hbb.size
      obtain ⟨x0, x1, x2, x3⟩ := box_at (by simpa using hbw)
      have HT := Lib.hid (show (c.take (i + 1)).all exprB = ((c.take i).all exprB && exprB c[i]) by rw [Tr.take_snoc c i hlt', List.all_append]; simp)
      cases hp : exprB c[i]
      · have HP := Lib.hid hp
        clear hp
        go_wp2_with fail
        refine (HI.out _ hmem _ _ (hk.more hws)).mono ?_
        rw [HP.out]
        rintro e w1 ⟨rfl, hb1⟩
        have hb2 := hbb.trans (hb1.mono hws)
        clear hb1
        go_wp2_with fail
        go_ret
        have hf : c.all exprB = false := by
          rw [List.all_eq_false]
          exact ⟨_, hmem, by rw [HP.out]; simp⟩
        exact ⟨by simp [hf], hb2⟩
      · have HP := Lib.hid hp
        clear hp
        go_wp2_with fail
        refine (HI.out _ hmem _ _ (hk.more hws)).mono ?_
        rw [HP.out]
        rintro e w1 ⟨rfl, hb1⟩
        have hb2 := hbw.trans (hb1.mono (by have := hbw.size; simp at this; omega))
        clear hb1
        go_wp2_with fail
        go_roundw
        case rel => exact ⟨i + 1, by omega, by go_num, by rw [Hid, HT.out, hall.out, HP.out]; rfl, hb2⟩
        case measure => simp [intOf]; omega
    · obtain rfl : i = 1 := by omega
      go_wp2_with fail
      go_ret
      have h := hall.out
      rw [← HL.out, List.take_length] at h
      exact ⟨by simp [h], hbb⟩

set_option maxHeartbeats 1600000 in
theorem rExpr_7 (n : Int) (s : ByteArray) (c : List Tr) (A : Option Addr) (cap : Nat) (w : World) (ih : ∀ t, t ∈ c → Tests 20 exprB t)
    (hr : Rep w w.heap.size (.mk 7 n s c) (nodeV 7 n s A c.length cap)) :
    Calls Try.prog 20 #[nodeV 7 n s A c.length cap] w fun e w' => e = .returned (.bool (plainB n s && lenB c 1 && c.all exprB)) ∧ Below w.heap.size w w' := by
  obtain ⟨_, hf, hrow⟩ := hr.row
  have hl1 := hf.l1
  have hl2 := hf.c1
  have HROW := Lib.hid hrow
  have HI := Lib.hid ih
  unfold nodeV lenB plainB emptyB
  clear hr hrow ih
  cases hn : (n == 0)
  · have hn' : (n != 0) = true := by simp [bne, hn]
    go_enter Try.func20, Try.ntmps20
    go_wp2_with fail
    go_ret
    exact ⟨by simp, (Below.refl _ _).alloc (Nat.le_refl _) _⟩
  have hn' : (n != 0) = false := by simp [bne, hn]
  cases hs : s.toList.isEmpty
  · go_enter Try.func20, Try.ntmps20
    go_wp2_with fail
    go_ret
    exact ⟨by simp, (Below.refl _ _).alloc (Nat.le_refl _) _⟩
  cases hl : ((c.length : Int) == 1)
  · have hl' : ((c.length : Int) != 1) = true := by simp [bne, hl]
    go_enter Try.func20, Try.ntmps20
    go_wp2_with fail
    go_ret
    exact ⟨by simp, (Below.refl _ _).alloc (Nat.le_refl _) _⟩
  have hl' : ((c.length : Int) != 1) = false := by simp [bne, hl]
  have hlen : c.length = 1 := by have hh := hl; simp at hh; omega
  have hle1 : c.length ≤ 1 := by omega
  have hle2 : 1 ≤ c.length := by omega
  have HL := Lib.hid hlen
  clear hlen
  go_enter Try.func20, Try.ntmps20
  go_wp2_with fail
  go_loopw [4] (fun i wr => ∃ j : Nat, j ≤ 1 ∧ i = .int .i64 j ∧ Hid ((c.take j).all exprB = true) ∧ Below (w.heap.size + 1) (w.alloc (.cells #[.int .u8 7, .int .i64 n, .string s, .slice A c.length cap] 24)) wr) (fun i _ => 1 - (intOf i).toNat)
  case atStart => exact ⟨0, Nat.zero_le _, rfl, by simp [Hid], Below.refl _ _⟩
  case round =>
    obtain ⟨i, hi, rfl, hall, hbw⟩ := hrel
    have hbb : Below w.heap.size w wr := ((Below.refl _ _).alloc (Nat.le_refl _) _).trans (hbw.mono (by omega))
    by_cases hlt : i < 1
    · have hlt' : i < c.length := by omega
      obtain ⟨b, off, A', cap', rfl, hbB, h0, h1, h2, h3, hk⟩ := (HROW.out.below hbb).kid i hlt'
      have hmem : c[i] ∈ c := List.getElem_mem hlt'
      have hws := hbb.size
      obtain ⟨x0, x1, x2, x3⟩ := box_at (by simpa using hbw)
      have HT := Lib.hid (show (c.take (i + 1)).all exprB = ((c.take i).all exprB && exprB c[i]) by rw [Tr.take_snoc c i hlt', List.all_append]; simp)
      cases hp : exprB c[i]
      · have HP := Lib.hid hp
        clear hp
        go_wp2_with fail
        refine (HI.out _ hmem _ _ (hk.more hws)).mono ?_
        rw [HP.out]
        rintro e w1 ⟨rfl, hb1⟩
        have hb2 := hbb.trans (hb1.mono hws)
        clear hb1
        go_wp2_with fail
        go_ret
        have hf : c.all exprB = false := by
          rw [List.all_eq_false]
          exact ⟨_, hmem, by rw [HP.out]; simp⟩
        exact ⟨by simp [hf], hb2⟩
      · have HP := Lib.hid hp
        clear hp
        go_wp2_with fail
        refine (HI.out _ hmem _ _ (hk.more hws)).mono ?_
        rw [HP.out]
        rintro e w1 ⟨rfl, hb1⟩
        have hb2 := hbw.trans (hb1.mono (by have := hbw.size; simp at this; omega))
        clear hb1
        go_wp2_with fail
        go_roundw
        case rel => exact ⟨i + 1, by omega, by go_num, by rw [Hid, HT.out, hall.out, HP.out]; rfl, hb2⟩
        case measure => simp [intOf]; omega
    · obtain rfl : i = 1 := by omega
      go_wp2_with fail
      go_ret
      have h := hall.out
      rw [← HL.out, List.take_length] at h
      exact ⟨by simp [h], hbb⟩

set_option maxHeartbeats 1600000 in
theorem rExpr_8 (k : Int) (n : Int) (s : ByteArray) (c : List Tr) (A : Option Addr) (cap : Nat) (w : World) (h8 : 8 ≤ k) (h23 : k ≤ 23) (e1 : (k == 1) = false) (e2 : (k == 2) = false) (e3 : (k == 3) = false) (e4 : (k == 4) = false) (e5 : (k == 5) = false) (e6 : (k == 6) = false) (e7 : (k == 7) = false) (ih : ∀ t, t ∈ c → Tests 20 exprB t)
    (hr : Rep w w.heap.size (.mk k n s c) (nodeV k n s A c.length cap)) :
    Calls Try.prog 20 #[nodeV k n s A c.length cap] w fun e w' => e = .returned (.bool (plainB n s && lenB c 2 && c.all exprB)) ∧ Below w.heap.size w w' := by
  obtain ⟨_, hf, hrow⟩ := hr.row
  have hl1 := hf.l1
  have hl2 := hf.c1
  have HROW := Lib.hid hrow
  have HI := Lib.hid ih
  unfold nodeV lenB plainB emptyB
  clear hr hrow ih
  cases hn : (n == 0)
  · have hn' : (n != 0) = true := by simp [bne, hn]
    go_enter Try.func20, Try.ntmps20
    go_wp2_with fail
    go_ret
    exact ⟨by simp, (Below.refl _ _).alloc (Nat.le_refl _) _⟩
  have hn' : (n != 0) = false := by simp [bne, hn]
  cases hs : s.toList.isEmpty
  · go_enter Try.func20, Try.ntmps20
    go_wp2_with fail
    go_ret
    exact ⟨by simp, (Below.refl _ _).alloc (Nat.le_refl _) _⟩
  cases hl : ((c.length : Int) == 2)
  · have hl' : ((c.length : Int) != 2) = true := by simp [bne, hl]
    go_enter Try.func20, Try.ntmps20
    go_wp2_with fail
    go_ret
    exact ⟨by simp, (Below.refl _ _).alloc (Nat.le_refl _) _⟩
  have hl' : ((c.length : Int) != 2) = false := by simp [bne, hl]
  have hlen : c.length = 2 := by have hh := hl; simp at hh; omega
  have hle1 : c.length ≤ 2 := by omega
  have hle2 : 2 ≤ c.length := by omega
  have HL := Lib.hid hlen
  clear hlen
  go_enter Try.func20, Try.ntmps20
  go_wp2_with fail
  go_loopw [4] (fun i wr => ∃ j : Nat, j ≤ 2 ∧ i = .int .i64 j ∧ Hid ((c.take j).all exprB = true) ∧ Below (w.heap.size + 1) (w.alloc (.cells #[.int .u8 k, .int .i64 n, .string s, .slice A c.length cap] 24)) wr) (fun i _ => 2 - (intOf i).toNat)
  case atStart => exact ⟨0, Nat.zero_le _, rfl, by simp [Hid], Below.refl _ _⟩
  case round =>
    obtain ⟨i, hi, rfl, hall, hbw⟩ := hrel
    have hbb : Below w.heap.size w wr := ((Below.refl _ _).alloc (Nat.le_refl _) _).trans (hbw.mono (by omega))
    by_cases hlt : i < 2
    · have hlt' : i < c.length := by omega
      obtain ⟨b, off, A', cap', rfl, hbB, h0, h1, h2, h3, hk⟩ := (HROW.out.below hbb).kid i hlt'
      have hmem : c[i] ∈ c := List.getElem_mem hlt'
      have hws := hbb.size
      obtain ⟨x0, x1, x2, x3⟩ := box_at (by simpa using hbw)
      have HT := Lib.hid (show (c.take (i + 1)).all exprB = ((c.take i).all exprB && exprB c[i]) by rw [Tr.take_snoc c i hlt', List.all_append]; simp)
      cases hp : exprB c[i]
      · have HP := Lib.hid hp
        clear hp
        go_wp2_with fail
        refine (HI.out _ hmem _ _ (hk.more hws)).mono ?_
        rw [HP.out]
        rintro e w1 ⟨rfl, hb1⟩
        have hb2 := hbb.trans (hb1.mono hws)
        clear hb1
        go_wp2_with fail
        go_ret
        have hf : c.all exprB = false := by
          rw [List.all_eq_false]
          exact ⟨_, hmem, by rw [HP.out]; simp⟩
        exact ⟨by simp [hf], hb2⟩
      · have HP := Lib.hid hp
        clear hp
        go_wp2_with fail
        refine (HI.out _ hmem _ _ (hk.more hws)).mono ?_
        rw [HP.out]
        rintro e w1 ⟨rfl, hb1⟩
        have hb2 := hbw.trans (hb1.mono (by have := hbw.size; simp at this; omega))
        clear hb1
        go_wp2_with fail
        go_roundw
        case rel => exact ⟨i + 1, by omega, by go_num, by rw [Hid, HT.out, hall.out, HP.out]; rfl, hb2⟩
        case measure => simp [intOf]; omega
    · obtain rfl : i = 2 := by omega
      go_wp2_with fail
      go_ret
      have h := hall.out
      rw [← HL.out, List.take_length] at h
      exact ⟨by simp [h], hbb⟩

set_option maxHeartbeats 400000 in
theorem rExpr_other (k : Int) (n : Int) (s : ByteArray) (c : List Tr) (A : Option Addr) (cap : Nat) (w : World) (e1 : (k == 1) = false) (e2 : (k == 2) = false) (e3 : (k == 3) = false) (e4 : (k == 4) = false) (e5 : (k == 5) = false) (e6 : (k == 6) = false) (e7 : (k == 7) = false) (hk : 23 < k ∨ k < 8)
    (_hr : Rep w w.heap.size (.mk k n s c) (nodeV k n s A c.length cap)) :
    Calls Try.prog 20 #[nodeV k n s A c.length cap] w fun e w' => e = .returned (.bool (false)) ∧ Below w.heap.size w w' := by
  unfold nodeV
  clear _hr
  rcases hk with hk | hk
  · go_enter Try.func20, Try.ntmps20
    go_wp2_with fail
    go_ret
    exact ⟨rfl, (Below.refl _ _).alloc (Nat.le_refl _) _⟩
  · go_enter Try.func20, Try.ntmps20
    go_wp2_with fail
    go_ret
    exact ⟨rfl, (Below.refl _ _).alloc (Nat.le_refl _) _⟩

theorem rExpr_any (t : Tr) : Tests 20 exprB t := by
  induction t using Tr.ind with
  | h k n s c ih =>
  intro v w hr
  have hr' := hr
  simp only [Rep] at hr'
  obtain ⟨A, cap, rfl, hf, _⟩ := hr'
  by_cases h1 : k = 1
  · subst h1; simpa [exprB] using rExpr_1 n s c A cap w hr
  by_cases h2 : k = 2
  · subst h2; simpa [exprB] using rExpr_2 n s c A cap w hr
  by_cases h3 : k = 3
  · subst h3; simpa [exprB, exprsB_all] using rExpr_3 n s c A cap w ih hr
  by_cases h4 : k = 4
  · subst h4; simpa [exprB] using rExpr_4 n s c A cap w hr
  by_cases h5 : k = 5
  · subst h5; simpa [exprB] using rExpr_5 n s c A cap w hr
  by_cases h6 : k = 6
  · subst h6; simpa [exprB, exprsB_all] using rExpr_6 n s c A cap w ih hr
  by_cases h7 : k = 7
  · subst h7; simpa [exprB, exprsB_all] using rExpr_7 n s c A cap w ih hr
  by_cases h8 : 8 ≤ k ∧ k ≤ 23
  · simpa [exprB, h1, h2, h3, h4, h5, h6, h7, h8, exprsB_all] using rExpr_8 k n s c A cap w h8.1 h8.2 (by simp [h1]) (by simp [h2]) (by simp [h3]) (by simp [h4]) (by simp [h5]) (by simp [h6]) (by simp [h7]) ih hr
  · simpa [exprB, h1, h2, h3, h4, h5, h6, h7, h8] using rExpr_other k n s c A cap w (by simp [h1]) (by simp [h2]) (by simp [h3]) (by simp [h4]) (by simp [h5]) (by simp [h6]) (by simp [h7]) (by omega) hr

end Go.Proofs.Ytlpgapmbajblmaa
