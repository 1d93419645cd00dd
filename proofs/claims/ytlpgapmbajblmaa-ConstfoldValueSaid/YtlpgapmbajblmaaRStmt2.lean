/- Valid statements: the walk of the reference, its loop. -/
import Derived.Test.YtlpgapmbajblmaaRStmt
namespace Go.Proofs.Ytlpgapmbajblmaa
open Go.RowKit Go.Shelf

set_option maxHeartbeats 800000 in
theorem rStmt_name (sh : ByteArray) (named ok : Bool) (k n : Int) (s : ByteArray) (c : List Tr) (A : Option Addr) (cap : Nat) (w : World)
    (hsh : ∀ W : World, w.heap.size ≤ W.heap.size → Calls Try.prog 108 #[nodeV k n s A c.length cap] W fun e w' => e = .returned (.tuple #[.string sh, .bool named, .bool ok]) ∧ Below W.heap.size W w')
    (_hsz : sh.size ≤ 8)
    (hr : Rep w w.heap.size (.mk k n s c) (nodeV k n s A c.length cap))
    (h1 : ok = true) (h2 : (n == 0) = true) (h3 : ((c.length : Int) == (sh.size : Int)) = true) (h4 : named = true) (h5 : s.toList.isEmpty = false) (h6 : nameB s = false) :
    Calls Try.prog 103 #[nodeV k n s A c.length cap] w fun e w' => e = .returned (.bool (genB sh named ok n s c)) ∧ Below w.heap.size w w' := by
  have HG := Lib.hid (show genB sh named ok n s c = false by simp [genB, h4, h6])
  obtain ⟨_, hf, _⟩ := hr.row
  have hs1 := hf.s1
  have HSH := Lib.hid hsh
  have H6 := Lib.hid h6
  unfold nodeV at *
  clear hr hsh h6
  subst h1
  subst h4
  have h2' : (n != 0) = false := by simp [bne, h2]
  have h3' : ((c.length : Int) != (sh.size : Int)) = false := by simp [bne, h3]
  all_goals
    go_enter Try.func103, Try.ntmps103
    go_wp2_with fail
    refine (HSH.out _ (by simp)).mono ?_
    rintro e w1 ⟨rfl, hb1⟩
    have hb2 := ((Below.refl _ w).alloc (Nat.le_refl _) _).trans (hb1.mono (by simp))
    obtain ⟨x0, x1, x2, x3⟩ := box_at hb1
    clear hb1
    go_wp2_with fail
    refine (rname_any s hs1 _).mono ?_
    rw [H6.out]
    rintro e w2 ⟨rfl, hb3⟩
    have hb4 := hb2.trans (hb3.mono hb2.size)
    clear hb3
    go_wp2_with fail
    go_ret
    exact ⟨by simp [HG.out], hb4⟩

set_option maxHeartbeats 3200000 in
theorem rStmt_loop0 (sh : ByteArray) (k n : Int) (s : ByteArray) (c : List Tr) (A : Option Addr) (cap : Nat) (w : World)
    (hsh : ∀ W : World, w.heap.size ≤ W.heap.size → Calls Try.prog 108 #[nodeV k n s A c.length cap] W fun e w' => e = .returned (.tuple #[.string sh, .bool false, .bool true]) ∧ Below W.heap.size W w')
    (hsz : sh.size ≤ 8)
    (hr : Rep w w.heap.size (.mk k n s c) (nodeV k n s A c.length cap))
    (hbytes : ∀ (i : Nat) (h : i < sh.size), (sh[i].toNat : Int) = 101 ∨ (sh[i].toNat : Int) = 112 ∨ (sh[i].toNat : Int) = 98 ∨ (sh[i].toNat : Int) = 118)
    (ihb : ∀ t, t ∈ c → Tests 86 blockB t) (h2 : (n == 0) = true) (h3 : ((c.length : Int) == (sh.size : Int)) = true) (h5 : s.toList.isEmpty = true) :
    Calls Try.prog 103 #[nodeV k n s A c.length cap] w fun e w' => e = .returned (.bool (genB sh false true n s c)) ∧ Below w.heap.size w w' := by
  obtain ⟨_, hf, hrow⟩ := hr.row
  have hs1 := hf.s1
  have HSH := Lib.hid hsh
  have HROW := Lib.hid hrow
  have HIB := Lib.hid ihb
  have HBY := Lib.hid hbytes
  unfold nodeV at *
  clear hr hsh hrow ihb hbytes
  have g2 := h2
  have g3 := h3
  have h2' : (n != 0) = false := by simp [bne, h2]
  have h3' : ((c.length : Int) != (sh.size : Int)) = false := by simp [bne, h3]
  have hle1 : c.length ≤ sh.size := by have hh := h3; simp at hh; omega
  have hle2 : sh.size ≤ c.length := by have hh := h3; simp at hh; omega
  have g4 : (false == !s.toList.isEmpty) = true := by simp [h5]
  have g5 : (!false || nameB s) = true := rfl
  go_enter Try.func103, Try.ntmps103
  go_wp2_with fail
  refine (HSH.out _ (by simp)).mono ?_
  rintro e w1 ⟨rfl, hb1⟩
  have hb2 := ((Below.refl _ w).alloc (Nat.le_refl _) _).trans (hb1.mono (by simp))
  obtain ⟨x0, x1, x2, x3⟩ := box_at hb1
  have hbw0 := (Below.refl _ (w.alloc (.cells #[.int .u8 k, .int .i64 n, .string s, .slice A c.length cap] 24))).trans (hb1.mono (Nat.le_refl _))
  rw [World.size_alloc] at hbw0
  clear hb1
  go_wp2_with fail
  go_loopw [6] (fun i wr => ∃ j : Nat, j ≤ sh.size ∧ i = .int .i64 j ∧ Hid (∀ (m : Nat) (h : m < sh.size) (h' : m < c.length), m < j → catC (sh[m].toNat : Int) c[m] = true) ∧ Below (w.heap.size + 1) (w.alloc (.cells #[.int .u8 k, .int .i64 n, .string s, .slice A c.length cap] 24)) wr) (fun i _ => sh.size - (intOf i).toNat)
  case atStart => exact ⟨0, Nat.zero_le _, rfl, fun m _ _ h => absurd h (Nat.not_lt_zero _), hbw0⟩
  case round =>
    obtain ⟨i, hi, rfl, hall, hbw⟩ := hrel
    have hbb : Below w.heap.size w wr := ((Below.refl _ _).alloc (Nat.le_refl _) _).trans (hbw.mono (by omega))
    by_cases hlt : i < sh.size
    · have hlt' : i < c.length := by omega
      obtain ⟨b, off, A', cap', rfl, hbB, h0, h1, h2, h3, hk⟩ := (HROW.out.below hbb).kid i hlt'
      have hmem : c[i] ∈ c := List.getElem_mem hlt'
      have hws := hbb.size
      obtain ⟨x0, x1, x2, x3⟩ := box_at (by simpa using hbw)
      have hstep : catC (sh[i].toNat : Int) c[i] = true → ∀ (m : Nat) (h : m < sh.size) (h' : m < c.length), m < i + 1 → catC (sh[m].toNat : Int) c[m] = true := by
        intro hc m h h' hm
        by_cases e : m = i
        · subst e; exact hc
        · exact hall.out m h h' (by omega)
      have HSTEP := Lib.hid hstep
      have hno : catC (sh[i].toNat : Int) c[i] = false → genB sh false true n s c = false := by
        intro hc
        have := zipC_not (l := sh.data.toList) (c := c) i (by simpa using hlt) hlt' (by rw [byte_at sh i hlt]; exact hc)
        simp only [genB, this, Bool.and_false]
      have HNO := Lib.hid hno
      have hwn : Below (w.heap.size + 1) (w.alloc (.cells #[.int .u8 k, .int .i64 n, .string s, .slice (some ⟨b, off, none⟩) c.length cap] 24)) (wr.alloc (.cells #[.int .u8 c[i].kind, .int .i64 c[i].num, .string c[i].name, .slice A' c[i].kids.length cap'] 24)) := hbw.alloc (by have := hbw.size; simp at this; omega) _
      have HWN := Lib.hid hwn
      clear hall hstep hno hwn
      have hby := HBY.out i hlt
      rcases hby with hb | hb | hb | hb
      · have hbv : (sh[i].toNat : Int) = 101 := hb
        have e1 : ((sh[i].toNat : Int) == 101) = true := by rw [hbv]; rfl
        have f0 : ((sh[i].toNat : Int) == 112) = false := by rw [hbv]; rfl
        have f1 : ((sh[i].toNat : Int) == 98) = false := by rw [hbv]; rfl
        have f2 : ((sh[i].toNat : Int) == 118) = false := by rw [hbv]; rfl
        cases hp : exprB c[i]
        · have HP := Lib.hid hp
          have HC := Lib.hid (show catC (sh[i].toNat : Int) c[i] = false by rw [hbv]; simpa [catC] using hp)
          clear hp hbv hb
          go_wp2_with fail
          refine (rExpr_any _ _ _ (hk.alloc hws _)).mono ?_
          rw [HP.out]
          rintro e w1 ⟨rfl, hb1⟩
          have hb2 := HWN.out.trans (hb1.mono (by have := hbw.size; simp at this ⊢; omega))
          clear hb1
          go_wp2_with fail
          go_ret
          exact ⟨by simp [HNO.out HC.out], ((Below.refl _ _).alloc (Nat.le_refl _) _).trans (hb2.mono (by omega))⟩
        · have HP := Lib.hid hp
          have HC := Lib.hid (show catC (sh[i].toNat : Int) c[i] = true by rw [hbv]; simpa [catC] using hp)
          clear hp hbv hb
          go_wp2_with fail
          refine (rExpr_any _ _ _ (hk.alloc hws _)).mono ?_
          rw [HP.out]
          rintro e w1 ⟨rfl, hb1⟩
          have hb2 := HWN.out.trans (hb1.mono (by have := hbw.size; simp at this ⊢; omega))
          clear hb1
          go_wp2_with fail
          go_roundw
          case rel => exact ⟨i + 1, by omega, by go_num, HSTEP.out HC.out, hb2⟩
          case measure => simp [intOf]; omega
      · have hbv : (sh[i].toNat : Int) = 112 := hb
        have e1 : ((sh[i].toNat : Int) == 112) = true := by rw [hbv]; rfl
        have f0 : ((sh[i].toNat : Int) == 101) = false := by rw [hbv]; rfl
        have f1 : ((sh[i].toNat : Int) == 98) = false := by rw [hbv]; rfl
        have f2 : ((sh[i].toNat : Int) == 118) = false := by rw [hbv]; rfl
        cases hp : placeB c[i]
        · have HP := Lib.hid hp
          have HC := Lib.hid (show catC (sh[i].toNat : Int) c[i] = false by rw [hbv]; simpa [catC] using hp)
          clear hp hbv hb
          go_wp2_with fail
          refine (rPlace_any _ _ _ (hk.alloc hws _)).mono ?_
          rw [HP.out]
          rintro e w1 ⟨rfl, hb1⟩
          have hb2 := HWN.out.trans (hb1.mono (by have := hbw.size; simp at this ⊢; omega))
          clear hb1
          go_wp2_with fail
          go_ret
          exact ⟨by simp [HNO.out HC.out], ((Below.refl _ _).alloc (Nat.le_refl _) _).trans (hb2.mono (by omega))⟩
        · have HP := Lib.hid hp
          have HC := Lib.hid (show catC (sh[i].toNat : Int) c[i] = true by rw [hbv]; simpa [catC] using hp)
          clear hp hbv hb
          go_wp2_with fail
          refine (rPlace_any _ _ _ (hk.alloc hws _)).mono ?_
          rw [HP.out]
          rintro e w1 ⟨rfl, hb1⟩
          have hb2 := HWN.out.trans (hb1.mono (by have := hbw.size; simp at this ⊢; omega))
          clear hb1
          go_wp2_with fail
          go_roundw
          case rel => exact ⟨i + 1, by omega, by go_num, HSTEP.out HC.out, hb2⟩
          case measure => simp [intOf]; omega
      · have hbv : (sh[i].toNat : Int) = 98 := hb
        have e1 : ((sh[i].toNat : Int) == 98) = true := by rw [hbv]; rfl
        have f0 : ((sh[i].toNat : Int) == 101) = false := by rw [hbv]; rfl
        have f1 : ((sh[i].toNat : Int) == 112) = false := by rw [hbv]; rfl
        have f2 : ((sh[i].toNat : Int) == 118) = false := by rw [hbv]; rfl
        cases hp : blockB c[i]
        · have HP := Lib.hid hp
          have HC := Lib.hid (show catC (sh[i].toNat : Int) c[i] = false by rw [hbv]; simpa [catC] using hp)
          clear hp hbv hb
          go_wp2_with fail
          refine (HIB.out _ hmem _ _ (hk.alloc hws _)).mono ?_
          rw [HP.out]
          rintro e w1 ⟨rfl, hb1⟩
          have hb2 := HWN.out.trans (hb1.mono (by have := hbw.size; simp at this ⊢; omega))
          clear hb1
          go_wp2_with fail
          go_ret
          exact ⟨by simp [HNO.out HC.out], ((Below.refl _ _).alloc (Nat.le_refl _) _).trans (hb2.mono (by omega))⟩
        · have HP := Lib.hid hp
          have HC := Lib.hid (show catC (sh[i].toNat : Int) c[i] = true by rw [hbv]; simpa [catC] using hp)
          clear hp hbv hb
          go_wp2_with fail
          refine (HIB.out _ hmem _ _ (hk.alloc hws _)).mono ?_
          rw [HP.out]
          rintro e w1 ⟨rfl, hb1⟩
          have hb2 := HWN.out.trans (hb1.mono (by have := hbw.size; simp at this ⊢; omega))
          clear hb1
          go_wp2_with fail
          go_roundw
          case rel => exact ⟨i + 1, by omega, by go_num, HSTEP.out HC.out, hb2⟩
          case measure => simp [intOf]; omega
      · have hbv : (sh[i].toNat : Int) = 118 := hb
        have e1 : ((sh[i].toNat : Int) == 118) = true := by rw [hbv]; rfl
        have f0 : ((sh[i].toNat : Int) == 101) = false := by rw [hbv]; rfl
        have f1 : ((sh[i].toNat : Int) == 112) = false := by rw [hbv]; rfl
        have f2 : ((sh[i].toNat : Int) == 98) = false := by rw [hbv]; rfl
        cases hk2 : (c[i].kind == 2)
        · have hk2' : (c[i].kind != 2) = true := by simp [bne, hk2]
          have HC := Lib.hid (show catC (sh[i].toNat : Int) c[i] = false by rw [hbv]; simp [catC, varB, hk2])
          clear hbv hb
          go_wp2_with fail
          have hb2 := HWN.out
          go_ret
          exact ⟨by simp [HNO.out HC.out], ((Below.refl _ _).alloc (Nat.le_refl _) _).trans (hb2.mono (by omega))⟩
        · have hk2' : (c[i].kind != 2) = false := by simp [bne, hk2]
          cases hp : exprB c[i]
          · have HP := Lib.hid hp
            have HC := Lib.hid (show catC (sh[i].toNat : Int) c[i] = false by rw [hbv]; simp [catC, varB, hk2, hp])
            clear hp hbv hb
            go_wp2_with fail
            refine (rExpr_any _ _ _ (hk.alloc hws _)).mono ?_
            rw [HP.out]
            rintro e w1 ⟨rfl, hb1⟩
            have hb2 := HWN.out.trans (hb1.mono (by have := hbw.size; simp at this ⊢; omega))
            clear hb1
            go_wp2_with fail
            go_ret
            exact ⟨by simp [HNO.out HC.out], ((Below.refl _ _).alloc (Nat.le_refl _) _).trans (hb2.mono (by omega))⟩
          · have HP := Lib.hid hp
            have HC := Lib.hid (show catC (sh[i].toNat : Int) c[i] = true by rw [hbv]; simp [catC, varB, hk2, hp])
            clear hp hbv hb
            go_wp2_with fail
            refine (rExpr_any _ _ _ (hk.alloc hws _)).mono ?_
            rw [HP.out]
            rintro e w1 ⟨rfl, hb1⟩
            have hb2 := HWN.out.trans (hb1.mono (by have := hbw.size; simp at this ⊢; omega))
            clear hb1
            go_wp2_with fail
            go_roundw
            case rel => exact ⟨i + 1, by omega, by go_num, HSTEP.out HC.out, hb2⟩
            case measure => simp [intOf]; omega
    · obtain rfl : i = sh.size := by omega
      go_wp2_with fail
      go_ret
      have hz : genB sh false true n s c = true := by
        have := zipC_of (l := sh.data.toList) (c := c) fun j hj hj' => by rw [byte_at sh j (by simpa using hj)]; exact hall.out j (by simpa using hj) hj' (by simpa using hj)
        simp only [genB, emptyB, this, g2, g3, g4, g5]
        rfl
      exact ⟨by simp [hz], hbb⟩

set_option maxHeartbeats 3200000 in
theorem rStmt_loop1 (sh : ByteArray) (k n : Int) (s : ByteArray) (c : List Tr) (A : Option Addr) (cap : Nat) (w : World)
    (hsh : ∀ W : World, w.heap.size ≤ W.heap.size → Calls Try.prog 108 #[nodeV k n s A c.length cap] W fun e w' => e = .returned (.tuple #[.string sh, .bool true, .bool true]) ∧ Below W.heap.size W w')
    (hsz : sh.size ≤ 8)
    (hr : Rep w w.heap.size (.mk k n s c) (nodeV k n s A c.length cap))
    (hbytes : ∀ (i : Nat) (h : i < sh.size), (sh[i].toNat : Int) = 101 ∨ (sh[i].toNat : Int) = 112 ∨ (sh[i].toNat : Int) = 98 ∨ (sh[i].toNat : Int) = 118)
    (ihb : ∀ t, t ∈ c → Tests 86 blockB t) (h2 : (n == 0) = true) (h3 : ((c.length : Int) == (sh.size : Int)) = true) (h5 : s.toList.isEmpty = false) (h6 : nameB s = true) :
    Calls Try.prog 103 #[nodeV k n s A c.length cap] w fun e w' => e = .returned (.bool (genB sh true true n s c)) ∧ Below w.heap.size w w' := by
  obtain ⟨_, hf, hrow⟩ := hr.row
  have hs1 := hf.s1
  have HSH := Lib.hid hsh
  have HROW := Lib.hid hrow
  have HIB := Lib.hid ihb
  have HBY := Lib.hid hbytes
  unfold nodeV at *
  clear hr hsh hrow ihb hbytes
  have g2 := h2
  have g3 := h3
  have h2' : (n != 0) = false := by simp [bne, h2]
  have h3' : ((c.length : Int) != (sh.size : Int)) = false := by simp [bne, h3]
  have hle1 : c.length ≤ sh.size := by have hh := h3; simp at hh; omega
  have hle2 : sh.size ≤ c.length := by have hh := h3; simp at hh; omega
  have g4 : (true == !s.toList.isEmpty) = true := by simp [h5]
  have g5 : (!true || nameB s) = true := by simp [h6]
  have H6 := Lib.hid h6
  have G5 := Lib.hid g5
  clear h6 g5
  go_enter Try.func103, Try.ntmps103
  go_wp2_with fail
  refine (HSH.out _ (by simp)).mono ?_
  rintro e w1 ⟨rfl, hb1⟩
  have hb2 := ((Below.refl _ w).alloc (Nat.le_refl _) _).trans (hb1.mono (by simp))
  obtain ⟨x0, x1, x2, x3⟩ := box_at hb1
  have hbw1 := (Below.refl _ (w.alloc (.cells #[.int .u8 k, .int .i64 n, .string s, .slice A c.length cap] 24))).trans (hb1.mono (Nat.le_refl _))
  rw [World.size_alloc] at hbw1
  clear hb1
  go_wp2_with fail
  refine (rname_any s hs1 _).mono ?_
  rw [H6.out]
  rintro e w2 ⟨rfl, hb3⟩
  have hbw0 := hbw1.trans (hb3.mono (by have := hbw1.size; simp at this; omega))
  clear hb3 hb2 x0 x1 x2 x3
  go_wp2_with fail
  go_loopw [6] (fun i wr => ∃ j : Nat, j ≤ sh.size ∧ i = .int .i64 j ∧ Hid (∀ (m : Nat) (h : m < sh.size) (h' : m < c.length), m < j → catC (sh[m].toNat : Int) c[m] = true) ∧ Below (w.heap.size + 1) (w.alloc (.cells #[.int .u8 k, .int .i64 n, .string s, .slice A c.length cap] 24)) wr) (fun i _ => sh.size - (intOf i).toNat)
  case atStart => exact ⟨0, Nat.zero_le _, rfl, fun m _ _ h => absurd h (Nat.not_lt_zero _), hbw0⟩
  case round =>
    obtain ⟨i, hi, rfl, hall, hbw⟩ := hrel
    have hbb : Below w.heap.size w wr := ((Below.refl _ _).alloc (Nat.le_refl _) _).trans (hbw.mono (by omega))
    by_cases hlt : i < sh.size
    · have hlt' : i < c.length := by omega
      obtain ⟨b, off, A', cap', rfl, hbB, h0, h1, h2, h3, hk⟩ := (HROW.out.below hbb).kid i hlt'
      have hmem : c[i] ∈ c := List.getElem_mem hlt'
      have hws := hbb.size
      obtain ⟨x0, x1, x2, x3⟩ := box_at (by simpa using hbw)
      have hstep : catC (sh[i].toNat : Int) c[i] = true → ∀ (m : Nat) (h : m < sh.size) (h' : m < c.length), m < i + 1 → catC (sh[m].toNat : Int) c[m] = true := by
        intro hc m h h' hm
        by_cases e : m = i
        · subst e; exact hc
        · exact hall.out m h h' (by omega)
      have HSTEP := Lib.hid hstep
      have hno : catC (sh[i].toNat : Int) c[i] = false → genB sh true true n s c = false := by
        intro hc
        have := zipC_not (l := sh.data.toList) (c := c) i (by simpa using hlt) hlt' (by rw [byte_at sh i hlt]; exact hc)
        simp only [genB, this, Bool.and_false]
      have HNO := Lib.hid hno
      have hwn : Below (w.heap.size + 1) (w.alloc (.cells #[.int .u8 k, .int .i64 n, .string s, .slice (some ⟨b, off, none⟩) c.length cap] 24)) (wr.alloc (.cells #[.int .u8 c[i].kind, .int .i64 c[i].num, .string c[i].name, .slice A' c[i].kids.length cap'] 24)) := hbw.alloc (by have := hbw.size; simp at this; omega) _
      have HWN := Lib.hid hwn
      clear hall hstep hno hwn
      have hby := HBY.out i hlt
      rcases hby with hb | hb | hb | hb
      · have hbv : (sh[i].toNat : Int) = 101 := hb
        have e1 : ((sh[i].toNat : Int) == 101) = true := by rw [hbv]; rfl
        have f0 : ((sh[i].toNat : Int) == 112) = false := by rw [hbv]; rfl
        have f1 : ((sh[i].toNat : Int) == 98) = false := by rw [hbv]; rfl
        have f2 : ((sh[i].toNat : Int) == 118) = false := by rw [hbv]; rfl
        cases hp : exprB c[i]
        · have HP := Lib.hid hp
          have HC := Lib.hid (show catC (sh[i].toNat : Int) c[i] = false by rw [hbv]; simpa [catC] using hp)
          clear hp hbv hb
          go_wp2_with fail
          refine (rExpr_any _ _ _ (hk.alloc hws _)).mono ?_
          rw [HP.out]
          rintro e w1 ⟨rfl, hb1⟩
          have hb2 := HWN.out.trans (hb1.mono (by have := hbw.size; simp at this ⊢; omega))
          clear hb1
          go_wp2_with fail
          go_ret
          exact ⟨by simp [HNO.out HC.out], ((Below.refl _ _).alloc (Nat.le_refl _) _).trans (hb2.mono (by omega))⟩
        · have HP := Lib.hid hp
          have HC := Lib.hid (show catC (sh[i].toNat : Int) c[i] = true by rw [hbv]; simpa [catC] using hp)
          clear hp hbv hb
          go_wp2_with fail
          refine (rExpr_any _ _ _ (hk.alloc hws _)).mono ?_
          rw [HP.out]
          rintro e w1 ⟨rfl, hb1⟩
          have hb2 := HWN.out.trans (hb1.mono (by have := hbw.size; simp at this ⊢; omega))
          clear hb1
          go_wp2_with fail
          go_roundw
          case rel => exact ⟨i + 1, by omega, by go_num, HSTEP.out HC.out, hb2⟩
          case measure => simp [intOf]; omega
      · have hbv : (sh[i].toNat : Int) = 112 := hb
        have e1 : ((sh[i].toNat : Int) == 112) = true := by rw [hbv]; rfl
        have f0 : ((sh[i].toNat : Int) == 101) = false := by rw [hbv]; rfl
        have f1 : ((sh[i].toNat : Int) == 98) = false := by rw [hbv]; rfl
        have f2 : ((sh[i].toNat : Int) == 118) = false := by rw [hbv]; rfl
        cases hp : placeB c[i]
        · have HP := Lib.hid hp
          have HC := Lib.hid (show catC (sh[i].toNat : Int) c[i] = false by rw [hbv]; simpa [catC] using hp)
          clear hp hbv hb
          go_wp2_with fail
          refine (rPlace_any _ _ _ (hk.alloc hws _)).mono ?_
          rw [HP.out]
          rintro e w1 ⟨rfl, hb1⟩
          have hb2 := HWN.out.trans (hb1.mono (by have := hbw.size; simp at this ⊢; omega))
          clear hb1
          go_wp2_with fail
          go_ret
          exact ⟨by simp [HNO.out HC.out], ((Below.refl _ _).alloc (Nat.le_refl _) _).trans (hb2.mono (by omega))⟩
        · have HP := Lib.hid hp
          have HC := Lib.hid (show catC (sh[i].toNat : Int) c[i] = true by rw [hbv]; simpa [catC] using hp)
          clear hp hbv hb
          go_wp2_with fail
          refine (rPlace_any _ _ _ (hk.alloc hws _)).mono ?_
          rw [HP.out]
          rintro e w1 ⟨rfl, hb1⟩
          have hb2 := HWN.out.trans (hb1.mono (by have := hbw.size; simp at this ⊢; omega))
          clear hb1
          go_wp2_with fail
          go_roundw
          case rel => exact ⟨i + 1, by omega, by go_num, HSTEP.out HC.out, hb2⟩
          case measure => simp [intOf]; omega
      · have hbv : (sh[i].toNat : Int) = 98 := hb
        have e1 : ((sh[i].toNat : Int) == 98) = true := by rw [hbv]; rfl
        have f0 : ((sh[i].toNat : Int) == 101) = false := by rw [hbv]; rfl
        have f1 : ((sh[i].toNat : Int) == 112) = false := by rw [hbv]; rfl
        have f2 : ((sh[i].toNat : Int) == 118) = false := by rw [hbv]; rfl
        cases hp : blockB c[i]
        · have HP := Lib.hid hp
          have HC := Lib.hid (show catC (sh[i].toNat : Int) c[i] = false by rw [hbv]; simpa [catC] using hp)
          clear hp hbv hb
          go_wp2_with fail
          refine (HIB.out _ hmem _ _ (hk.alloc hws _)).mono ?_
          rw [HP.out]
          rintro e w1 ⟨rfl, hb1⟩
          have hb2 := HWN.out.trans (hb1.mono (by have := hbw.size; simp at this ⊢; omega))
          clear hb1
          go_wp2_with fail
          go_ret
          exact ⟨by simp [HNO.out HC.out], ((Below.refl _ _).alloc (Nat.le_refl _) _).trans (hb2.mono (by omega))⟩
        · have HP := Lib.hid hp
          have HC := Lib.hid (show catC (sh[i].toNat : Int) c[i] = true by rw [hbv]; simpa [catC] using hp)
          clear hp hbv hb
          go_wp2_with fail
          refine (HIB.out _ hmem _ _ (hk.alloc hws _)).mono ?_
          rw [HP.out]
          rintro e w1 ⟨rfl, hb1⟩
          have hb2 := HWN.out.trans (hb1.mono (by have := hbw.size; simp at this ⊢; omega))
          clear hb1
          go_wp2_with fail
          go_roundw
          case rel => exact ⟨i + 1, by omega, by go_num, HSTEP.out HC.out, hb2⟩
          case measure => simp [intOf]; omega
      · have hbv : (sh[i].toNat : Int) = 118 := hb
        have e1 : ((sh[i].toNat : Int) == 118) = true := by rw [hbv]; rfl
        have f0 : ((sh[i].toNat : Int) == 101) = false := by rw [hbv]; rfl
        have f1 : ((sh[i].toNat : Int) == 112) = false := by rw [hbv]; rfl
        have f2 : ((sh[i].toNat : Int) == 98) = false := by rw [hbv]; rfl
        cases hk2 : (c[i].kind == 2)
        · have hk2' : (c[i].kind != 2) = true := by simp [bne, hk2]
          have HC := Lib.hid (show catC (sh[i].toNat : Int) c[i] = false by rw [hbv]; simp [catC, varB, hk2])
          clear hbv hb
          go_wp2_with fail
          have hb2 := HWN.out
          go_ret
          exact ⟨by simp [HNO.out HC.out], ((Below.refl _ _).alloc (Nat.le_refl _) _).trans (hb2.mono (by omega))⟩
        · have hk2' : (c[i].kind != 2) = false := by simp [bne, hk2]
          cases hp : exprB c[i]
          · have HP := Lib.hid hp
            have HC := Lib.hid (show catC (sh[i].toNat : Int) c[i] = false by rw [hbv]; simp [catC, varB, hk2, hp])
            clear hp hbv hb
            go_wp2_with fail
            refine (rExpr_any _ _ _ (hk.alloc hws _)).mono ?_
            rw [HP.out]
            rintro e w1 ⟨rfl, hb1⟩
            have hb2 := HWN.out.trans (hb1.mono (by have := hbw.size; simp at this ⊢; omega))
            clear hb1
            go_wp2_with fail
            go_ret
            exact ⟨by simp [HNO.out HC.out], ((Below.refl _ _).alloc (Nat.le_refl _) _).trans (hb2.mono (by omega))⟩
          · have HP := Lib.hid hp
            have HC := Lib.hid (show catC (sh[i].toNat : Int) c[i] = true by rw [hbv]; simp [catC, varB, hk2, hp])
            clear hp hbv hb
            go_wp2_with fail
            refine (rExpr_any _ _ _ (hk.alloc hws _)).mono ?_
            rw [HP.out]
            rintro e w1 ⟨rfl, hb1⟩
            have hb2 := HWN.out.trans (hb1.mono (by have := hbw.size; simp at this ⊢; omega))
            clear hb1
            go_wp2_with fail
            go_roundw
            case rel => exact ⟨i + 1, by omega, by go_num, HSTEP.out HC.out, hb2⟩
            case measure => simp [intOf]; omega
    · obtain rfl : i = sh.size := by omega
      go_wp2_with fail
      go_ret
      have hz : genB sh true true n s c = true := by
        have := zipC_of (l := sh.data.toList) (c := c) fun j hj hj' => by rw [byte_at sh j (by simpa using hj)]; exact hall.out j (by simpa using hj) hj' (by simpa using hj)
        simp only [genB, emptyB, this, g2, g3, g4, G5.out]
        rfl
      exact ⟨by simp [hz], hbb⟩

end Go.Proofs.Ytlpgapmbajblmaa
