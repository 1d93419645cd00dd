/- Names, the second part: first, sign, Name; the reference's Kind, In, Name. -/
import Derived.Test.YtkngdmilgfgclaaKw
import Derived.Laws.Externs
import Derived.Shelf.Abstract
import Derived.Deep.QuietTactic
import Derived.BigQuiet
namespace Go.Proofs.Ytkngdmilgfgclaa
open Go.RowKit Go.Shelf

def SomeInt (w : World) (e : Ending) (w' : World) : Prop := ∃ n : Int, e = .returned (.int .i64 n) ∧ w = w'
def SomeBool (w : World) (e : Ending) (w' : World) : Prop := ∃ b : Bool, e = .returned (.bool b) ∧ w = w'

theorem hasPrefix_lite (s t : ByteArray) (_hs : s.size ≤ 9223372036854775807) (_ht : t.size ≤ 9223372036854775807) (w : World) : Calls Try.prog 86 #[.string s, .string t] w (SomeBool w) := by
  by_cases h : t.size ≤ s.size
  · go_enter Try.func86, Try.ntmps86
    go_wp2_with fail
    go_ret
    exact ⟨_, rfl, rfl⟩
  · go_enter Try.func86, Try.ntmps86
    go_wp2_with fail
    go_ret
    exact ⟨_, rfl, rfl⟩

theorem hasPrefix_any (s t : ByteArray) (hs : s.size ≤ 9223372036854775807) (ht : t.size ≤ 9223372036854775807) (w : World) : Calls Try.prog 84 #[.string s, .string t] w (SomeBool w) := by
  go_enter Try.func84, Try.ntmps84
  go_wp2_with fail
  refine (hasPrefix_lite s t hs ht _).mono ?_
  rintro e w' ⟨b, rfl, rfl⟩
  go_wp2_with fail
  go_ret
  exact ⟨b, rfl, rfl⟩

theorem indexByte_lite (s : ByteArray) (c : Int) (w : World) : Calls Try.prog 87 #[.string s, .int .u8 c] w (SomeInt w) := by
  have hx : ∀ W : World, (callFunc 88 #[.string s, .int .u8 c]).run Try.prog W = .ok (.value (.int .i64 (firstIdx s c.toNat.toUInt8))) W := by
    intro W
    rw [run_callFunc_extern Try.func88 (by kernel_rfl) (by kernel_rfl) (by kernel_rfl) (e := Extern.BytealgIndexByte.indexByte) (by kernel_rfl), run_indexByte_string]
    rfl
  go_enter Try.func87, Try.ntmps87
  go_wp2_with fail
  go_ret
  exact ⟨_, rfl, rfl⟩

theorem indexByte_any (s : ByteArray) (c : Int) (w : World) : Calls Try.prog 85 #[.string s, .int .u8 c] w (SomeInt w) := by
  go_enter Try.func85, Try.ntmps85
  go_wp2_with fail
  refine (indexByte_lite s c _).mono ?_
  rintro e w' ⟨b, rfl, rfl⟩
  go_wp2_with fail
  go_ret
  exact ⟨b, rfl, rfl⟩

set_option maxHeartbeats 800000 in
theorem sign_any (s : ByteArray) (h0 : 1 ≤ s.size) (hs : s.size ≤ 9223372036854775807) (w : World) : Calls Try.prog 80 #[.string s] w (SomeInt w) := by
  go_enter Try.func80, Try.ntmps80
  go_wp2_with fail
  refine (hasPrefix_any _ _ hs (by decide) _).mono ?_
  rintro e w' ⟨b, rfl, rfl⟩
  cases b
  · go_wp2_with fail
    all_goals first
      | (with_reducible refine (indexByte_any _ _ _).mono ?_
         rintro e w' ⟨b, rfl, rfl⟩
         go_wp2_with fail
         all_goals (go_ret; exact ⟨_, rfl, rfl⟩))
      | (go_ret; exact ⟨_, rfl, rfl⟩)
  · go_wp2_with fail
    go_ret
    exact ⟨_, rfl, rfl⟩

def blkB (c : Int) : Bool := c == 32 || c == 9 || c == 13 || c == 10
def nlB (c : Int) : Bool := c != 10

theorem blank_any (c : Int) (w : World) : Calls Try.prog 78 #[.int .u8 c] w fun e w' => e = .returned (.bool (blkB c)) ∧ w = w' := by
  by_cases h1 : c = 32
  · subst h1
    go_enter Try.func78, Try.ntmps78
    go_wp2_with fail
    go_ret
    exact ⟨rfl, rfl⟩
  by_cases h2 : c = 9
  · subst h2
    go_enter Try.func78, Try.ntmps78
    go_wp2_with fail
    go_ret
    exact ⟨rfl, rfl⟩
  by_cases h3 : c = 13
  · subst h3
    go_enter Try.func78, Try.ntmps78
    go_wp2_with fail
    go_ret
    exact ⟨rfl, rfl⟩
  have e1 : (c == 32) = false := by simp [h1]
  have e2 : (c == 9) = false := by simp [h2]
  have e3 : (c == 13) = false := by simp [h3]
  go_enter Try.func78, Try.ntmps78
  go_wp2_with fail
  go_ret
  exact ⟨by simp [blkB, h1, h2, h3], rfl⟩

theorem nl_any (c : Int) (w : World) : Calls Try.prog 79 #[.int .u8 c] w fun e w' => e = .returned (.bool (nlB c)) ∧ w = w' := by
  go_enter Try.func79, Try.ntmps79
  go_wp2_with fail
  go_ret
  exact ⟨rfl, rfl⟩

def FirstYes (s : ByteArray) (w : World) (e : Ending) (w' : World) : Prop :=
  ∃ n : Nat, e = .returned (.tuple #[.int .u8 1, .int .i64 n]) ∧ n ≤ s.size ∧ (n = s.size ↔ allB ldB s = true) ∧ w = w'
def FirstNo (w : World) (e : Ending) (w' : World) : Prop :=
  ∃ k n : Int, e = .returned (.tuple #[.int .u8 k, .int .i64 n]) ∧ (k == 1) = false ∧ w = w'

set_option maxHeartbeats 400000 in
theorem first_yes (s : ByteArray) (h0 : 0 < s.size) (hs : s.size ≤ 9223372036854775807) (hl : letB (s[0].toNat : Int) = true) (w : World) :
    Calls Try.prog 68 #[.string s] w (FirstYes s w) := by
  have HL := Lib.hid hl
  clear hl
  go_enter Try.func68, Try.ntmps68
  go_wp2_with fail
  refine (letter_any _ _).mono ?_
  rw [HL.out]
  rintro e w' ⟨rfl, rfl⟩
  go_wp2_with fail
  refine (span_any ldB 76 ld_any (enters_of Try.func76 (by kernel_rfl) rfl) s hs _).mono ?_
  rintro e w' ⟨n, rfl, hn, hall, rfl⟩
  have HA := Lib.hid hall
  clear hall
  go_wp2_with fail
  go_ret2
  exact ⟨n, rfl, hn, HA.out, rfl⟩

set_option maxHeartbeats 400000 in
theorem first_no (s : ByteArray) (h0 : 0 < s.size) (hs : s.size ≤ 9223372036854775807) (hl : letB (s[0].toNat : Int) = false) (w : World) :
    Calls Try.prog 68 #[.string s] w (FirstNo w) := by
  have HL := Lib.hid hl
  clear hl
  cases hd : digB (s[0].toNat : Int)
  · cases hb : blkB (s[0].toNat : Int)
    · have HD := Lib.hid hd
      have HB := Lib.hid hb
      clear hd hb
      cases hc : (((s[0].toNat : Int)) == 35)
      · go_enter Try.func68, Try.ntmps68
        go_wp2_with fail
        refine (letter_any _ _).mono ?_
        rw [HL.out]
        rintro e w' ⟨rfl, rfl⟩
        go_wp2_with fail
        refine (digit_any _ _).mono ?_
        rw [HD.out]
        rintro e w' ⟨rfl, rfl⟩
        go_wp2_with fail
        refine (blank_any _ _).mono ?_
        rw [HB.out]
        rintro e w' ⟨rfl, rfl⟩
        go_wp2_with fail
        refine (sign_any s h0 hs _).mono ?_
        rintro e w' ⟨n, rfl, rfl⟩
        go_wp2_with fail
        go_ret2
        exact ⟨3, n, rfl, rfl, rfl⟩
      · go_enter Try.func68, Try.ntmps68
        go_wp2_with fail
        refine (letter_any _ _).mono ?_
        rw [HL.out]
        rintro e w' ⟨rfl, rfl⟩
        go_wp2_with fail
        refine (digit_any _ _).mono ?_
        rw [HD.out]
        rintro e w' ⟨rfl, rfl⟩
        go_wp2_with fail
        refine (blank_any _ _).mono ?_
        rw [HB.out]
        rintro e w' ⟨rfl, rfl⟩
        go_wp2_with fail
        refine (span_any nlB 79 nl_any (enters_of Try.func79 (by kernel_rfl) rfl) s hs _).mono ?_
        rintro e w' ⟨n, rfl, hn, hall, rfl⟩
        clear hall
        go_wp2_with fail
        go_ret2
        exact ⟨5, n, rfl, rfl, rfl⟩
    · have HD := Lib.hid hd
      have HB := Lib.hid hb
      clear hd hb
      go_enter Try.func68, Try.ntmps68
      go_wp2_with fail
      refine (letter_any _ _).mono ?_
      rw [HL.out]
      rintro e w' ⟨rfl, rfl⟩
      go_wp2_with fail
      refine (digit_any _ _).mono ?_
      rw [HD.out]
      rintro e w' ⟨rfl, rfl⟩
      go_wp2_with fail
      refine (blank_any _ _).mono ?_
      rw [HB.out]
      rintro e w' ⟨rfl, rfl⟩
      go_wp2_with fail
      refine (span_any blkB 78 blank_any (enters_of Try.func78 (by kernel_rfl) rfl) s hs _).mono ?_
      rintro e w' ⟨n, rfl, hn, hall, rfl⟩
      clear hall
      go_wp2_with fail
      go_ret2
      exact ⟨4, n, rfl, rfl, rfl⟩
  · have HD := Lib.hid hd
    clear hd
    go_enter Try.func68, Try.ntmps68
    go_wp2_with fail
    refine (letter_any _ _).mono ?_
    rw [HL.out]
    rintro e w' ⟨rfl, rfl⟩
    go_wp2_with fail
    refine (digit_any _ _).mono ?_
    rw [HD.out]
    rintro e w' ⟨rfl, rfl⟩
    go_wp2_with fail
    refine (span_any digB 77 digit_any (enters_of Try.func77 (by kernel_rfl) rfl) s hs _).mono ?_
    rintro e w' ⟨n, rfl, hn, hall, rfl⟩
    clear hall
    go_wp2_with fail
    go_ret2
    exact ⟨2, n, rfl, rfl, rfl⟩

/-- what both packages call a name -/
def nameB (s : ByteArray) : Bool := decide (0 < s.size) && decide (s.size ≤ 16) && letB (s[0]!.toNat : Int) && allB ldB s && !kwB s

theorem get0 (s : ByteArray) (h : 0 < s.size) : s[0]! = s[0] := getElem!_pos s 0 h

theorem ne_of_pos {s : ByteArray} (h : 0 < s.size) : s.toList.isEmpty = false ∧ ¬ s.toList = [] := by
  rw [ByteArray.toList_eq]
  have : s.data.toList.length = s.size := by simp
  cases hl : s.data.toList with
  | nil => rw [hl] at this; simp at this; omega
  | cons x r => simp
theorem nil_of_zero {s : ByteArray} (h : ¬ 0 < s.size) : s.toList.isEmpty = true ∧ s.toList = [] := by
  rw [ByteArray.toList_eq]
  have : s.data.toList.length = s.size := by simp
  cases hl : s.data.toList with
  | nil => simp
  | cons x r => rw [hl] at this; simp at this; omega

set_option maxHeartbeats 400000 in
theorem name_any (s : ByteArray) (hs : s.size ≤ 9223372036854775807) (w : World) :
    Calls Try.prog 63 #[.string s] w fun e w' => e = .returned (.bool (nameB s)) ∧ Below w.heap.size w w' := by
  by_cases h0 : 0 < s.size
  · obtain ⟨n1, n2⟩ := ne_of_pos h0
    by_cases h16 : s.size ≤ 16
    · cases hl : letB (s[0].toNat : Int)
      · have hn : nameB s = false := by simp [nameB, get0 s h0, hl]
        have HN := Lib.hid hn
        have HL := Lib.hid hl
        clear hn hl
        go_enter Try.func63, Try.ntmps63
        go_wp2_with fail
        refine (first_no s h0 hs HL.out _).mono ?_
        rintro e w' ⟨k, n, rfl, hk, rfl⟩
        go_wp2_with fail
        go_ret
        exact ⟨by simp [HN.out], Below.refl _ _⟩
      · have HL := Lib.hid hl
        clear hl
        cases ha : allB ldB s
        · have hn : nameB s = false := by simp [nameB, ha]
          have HN := Lib.hid hn
          have HA := Lib.hid ha
          clear hn ha
          go_enter Try.func63, Try.ntmps63
          go_wp2_with fail
          refine (first_yes s h0 hs HL.out _).mono ?_
          rintro e w' ⟨n, rfl, hn, hiff, rfl⟩
          have hne : ((n : Int) == (s.size : Int)) = false := by
            have : ¬ n = s.size := fun e => by have := hiff.1 e; rw [HA.out] at this; cases this
            simp; omega
          clear hiff
          go_wp2_with fail
          go_ret
          exact ⟨by simp [HN.out], Below.refl _ _⟩
        · have hn : nameB s = !kwB s := by simp [nameB, ha, h0, h16, HL.out]
          have HN := Lib.hid hn
          have HA := Lib.hid ha
          clear hn ha
          go_enter Try.func63, Try.ntmps63
          go_wp2_with fail
          refine (first_yes s h0 hs HL.out _).mono ?_
          rintro e w' ⟨n, rfl, hn, hiff, rfl⟩
          obtain rfl : n = s.size := hiff.2 HA.out
          clear hiff
          go_wp2_with fail
          refine (keyword_any s _).mono ?_
          rintro e w' ⟨rfl, hb⟩
          go_wp2_with fail
          go_ret
          exact ⟨by simp [HN.out], hb⟩
    · have hn : nameB s = false := by simp [nameB, h16]
      have HN := Lib.hid hn
      clear hn
      go_enter Try.func63, Try.ntmps63
      go_wp2_with fail
      go_ret
      exact ⟨by simp [HN.out], Below.refl _ _⟩
  · have hn : nameB s = false := by simp [nameB, h0]
    have HN := Lib.hid hn
    clear hn
    obtain ⟨n1, n2⟩ := nil_of_zero h0
    go_enter Try.func63, Try.ntmps63
    go_wp2_with fail
    go_ret
    exact ⟨by simp [HN.out], Below.refl _ _⟩

end Go.Proofs.Ytkngdmilgfgclaa
