/- Valid statements and blocks: the walks of the reference. -/
import Derived.Test.YtlpgapmbajblmaaRExpr
import Derived.Test.YtlpgapmbajblmaaKinds2
namespace Go.Proofs.Ytlpgapmbajblmaa
open Go.RowKit Go.Shelf

set_option maxHeartbeats 400000 in
theorem rPlace_any (t : Tr) : Tests 109 placeB t := by
  cases t with
  | mk k n s c =>
  intro v w hr
  have hr' := hr
  simp only [Rep] at hr'
  obtain ⟨A, cap, rfl, hf, _⟩ := hr'
  have HX := Lib.hid (rExpr_any _ _ _ (hr.alloc (Nat.le_refl _) (.cells #[.int .u8 k, .int .i64 n, .string s, .slice A c.length cap] 24)))
  clear hr
  unfold nodeV at *
  cases he : exprB (.mk k n s c)
  · have H := Lib.hid he
    clear he
    go_enter Try.func109, Try.ntmps109
    go_wp2_with fail
    refine HX.out.mono ?_
    rw [H.out]
    rintro e w1 ⟨rfl, hb1⟩
    have hb2 := ((Below.refl _ w).alloc (Nat.le_refl _) _).trans (hb1.mono (by simp))
    clear hb1
    go_wp2_with fail
    go_ret
    exact ⟨by simp [placeB, H.out], hb2⟩
  · have H := Lib.hid he
    clear he
    cases h2 : (k == 2)
    all_goals
      go_enter Try.func109, Try.ntmps109
      go_wp2_with fail
      refine HX.out.mono ?_
      rw [H.out]
      rintro e w1 ⟨rfl, hb1⟩
      have hb2 := ((Below.refl _ w).alloc (Nat.le_refl _) _).trans (hb1.mono (by simp))
      obtain ⟨x0, x1, x2, x3⟩ := box_at hb1
      clear hb1
      go_wp2_with fail
      go_ret
      exact ⟨by simp [placeB, H.out, Tr.kind, h2], hb2⟩

def vees : ByteArray := ⟨#[118, 118, 118, 118, 118, 118, 118, 118]⟩

theorem shape_40 (n : Int) (s : ByteArray) (c : List Tr) (A : Option Addr) (cap : Nat) (w : World) :
    Calls Try.prog 108 #[nodeV 40 n s A c.length cap] w fun e w' => e = .returned (.tuple #[.string ⟨#[112, 101]⟩, .bool false, .bool true]) ∧ Below w.heap.size w w' := by
  unfold nodeV
  go_enter Try.func108, Try.ntmps108
  go_wp2_with fail
  go_ret3
  exact ⟨rfl, (Below.refl _ _).alloc (Nat.le_refl _) _⟩

theorem shape_41 (n : Int) (s : ByteArray) (c : List Tr) (A : Option Addr) (cap : Nat) (w : World) :
    Calls Try.prog 108 #[nodeV 41 n s A c.length cap] w fun e w' => e = .returned (.tuple #[.string ⟨#[112, 101]⟩, .bool false, .bool true]) ∧ Below w.heap.size w w' := by
  unfold nodeV
  go_enter Try.func108, Try.ntmps108
  go_wp2_with fail
  go_ret3
  exact ⟨rfl, (Below.refl _ _).alloc (Nat.le_refl _) _⟩

theorem shape_42 (n : Int) (s : ByteArray) (c : List Tr) (A : Option Addr) (cap : Nat) (w : World) :
    Calls Try.prog 108 #[nodeV 42 n s A c.length cap] w fun e w' => e = .returned (.tuple #[.string ⟨#[112, 101]⟩, .bool false, .bool true]) ∧ Below w.heap.size w w' := by
  unfold nodeV
  go_enter Try.func108, Try.ntmps108
  go_wp2_with fail
  go_ret3
  exact ⟨rfl, (Below.refl _ _).alloc (Nat.le_refl _) _⟩

theorem shape_56 (n : Int) (s : ByteArray) (c : List Tr) (A : Option Addr) (cap : Nat) (w : World) :
    Calls Try.prog 108 #[nodeV 56 n s A c.length cap] w fun e w' => e = .returned (.tuple #[.string ⟨#[112, 101]⟩, .bool false, .bool true]) ∧ Below w.heap.size w w' := by
  unfold nodeV
  go_enter Try.func108, Try.ntmps108
  go_wp2_with fail
  go_ret3
  exact ⟨rfl, (Below.refl _ _).alloc (Nat.le_refl _) _⟩

theorem shape_43 (n : Int) (s : ByteArray) (c : List Tr) (A : Option Addr) (cap : Nat) (w : World) :
    Calls Try.prog 108 #[nodeV 43 n s A c.length cap] w fun e w' => e = .returned (.tuple #[.string ⟨#[112, 112]⟩, .bool false, .bool true]) ∧ Below w.heap.size w w' := by
  unfold nodeV
  go_enter Try.func108, Try.ntmps108
  go_wp2_with fail
  go_ret3
  exact ⟨rfl, (Below.refl _ _).alloc (Nat.le_refl _) _⟩

theorem shape_44 (n : Int) (s : ByteArray) (c : List Tr) (A : Option Addr) (cap : Nat) (w : World) :
    Calls Try.prog 108 #[nodeV 44 n s A c.length cap] w fun e w' => e = .returned (.tuple #[.string ⟨#[112]⟩, .bool true, .bool true]) ∧ Below w.heap.size w w' := by
  unfold nodeV
  go_enter Try.func108, Try.ntmps108
  go_wp2_with fail
  go_ret3
  exact ⟨rfl, (Below.refl _ _).alloc (Nat.le_refl _) _⟩

theorem shape_45 (n : Int) (s : ByteArray) (c : List Tr) (A : Option Addr) (cap : Nat) (w : World) :
    Calls Try.prog 108 #[nodeV 45 n s A c.length cap] w fun e w' => e = .returned (.tuple #[.string ⟨#[112]⟩, .bool true, .bool true]) ∧ Below w.heap.size w w' := by
  unfold nodeV
  go_enter Try.func108, Try.ntmps108
  go_wp2_with fail
  go_ret3
  exact ⟨rfl, (Below.refl _ _).alloc (Nat.le_refl _) _⟩

theorem shape_46 (n : Int) (s : ByteArray) (c : List Tr) (A : Option Addr) (cap : Nat) (w : World) :
    Calls Try.prog 108 #[nodeV 46 n s A c.length cap] w fun e w' => e = .returned (.tuple #[.string ⟨#[112]⟩, .bool false, .bool true]) ∧ Below w.heap.size w w' := by
  unfold nodeV
  go_enter Try.func108, Try.ntmps108
  go_wp2_with fail
  go_ret3
  exact ⟨rfl, (Below.refl _ _).alloc (Nat.le_refl _) _⟩

theorem shape_47 (n : Int) (s : ByteArray) (c : List Tr) (A : Option Addr) (cap : Nat) (w : World) :
    Calls Try.prog 108 #[nodeV 47 n s A c.length cap] w fun e w' => e = .returned (.tuple #[.string ⟨#[112]⟩, .bool false, .bool true]) ∧ Below w.heap.size w w' := by
  unfold nodeV
  go_enter Try.func108, Try.ntmps108
  go_wp2_with fail
  go_ret3
  exact ⟨rfl, (Below.refl _ _).alloc (Nat.le_refl _) _⟩

theorem shape_48 (n : Int) (s : ByteArray) (c : List Tr) (A : Option Addr) (cap : Nat) (w : World) :
    Calls Try.prog 108 #[nodeV 48 n s A c.length cap] w fun e w' => e = .returned (.tuple #[.string ⟨#[112]⟩, .bool false, .bool true]) ∧ Below w.heap.size w w' := by
  unfold nodeV
  go_enter Try.func108, Try.ntmps108
  go_wp2_with fail
  go_ret3
  exact ⟨rfl, (Below.refl _ _).alloc (Nat.le_refl _) _⟩

theorem shape_49 (n : Int) (s : ByteArray) (c : List Tr) (A : Option Addr) (cap : Nat) (w : World) :
    Calls Try.prog 108 #[nodeV 49 n s A c.length cap] w fun e w' => e = .returned (.tuple #[.string ⟨#[112]⟩, .bool false, .bool true]) ∧ Below w.heap.size w w' := by
  unfold nodeV
  go_enter Try.func108, Try.ntmps108
  go_wp2_with fail
  go_ret3
  exact ⟨rfl, (Below.refl _ _).alloc (Nat.le_refl _) _⟩

theorem shape_52 (n : Int) (s : ByteArray) (c : List Tr) (A : Option Addr) (cap : Nat) (w : World) :
    Calls Try.prog 108 #[nodeV 52 n s A c.length cap] w fun e w' => e = .returned (.tuple #[.string ⟨#[101, 98, 98, 101]⟩, .bool false, .bool true]) ∧ Below w.heap.size w w' := by
  unfold nodeV
  go_enter Try.func108, Try.ntmps108
  go_wp2_with fail
  go_ret3
  exact ⟨rfl, (Below.refl _ _).alloc (Nat.le_refl _) _⟩

theorem shape_53 (n : Int) (s : ByteArray) (c : List Tr) (A : Option Addr) (cap : Nat) (w : World) :
    Calls Try.prog 108 #[nodeV 53 n s A c.length cap] w fun e w' => e = .returned (.tuple #[.string ⟨#[101, 98, 98, 101]⟩, .bool false, .bool true]) ∧ Below w.heap.size w w' := by
  unfold nodeV
  go_enter Try.func108, Try.ntmps108
  go_wp2_with fail
  go_ret3
  exact ⟨rfl, (Below.refl _ _).alloc (Nat.le_refl _) _⟩

theorem shape_54 (n : Int) (s : ByteArray) (c : List Tr) (A : Option Addr) (cap : Nat) (w : World) :
    Calls Try.prog 108 #[nodeV 54 n s A c.length cap] w fun e w' => e = .returned (.tuple #[.string ⟨#[101, 98, 101]⟩, .bool true, .bool true]) ∧ Below w.heap.size w w' := by
  unfold nodeV
  go_enter Try.func108, Try.ntmps108
  go_wp2_with fail
  go_ret3
  exact ⟨rfl, (Below.refl _ _).alloc (Nat.le_refl _) _⟩

theorem shape_55 (n : Int) (s : ByteArray) (c : List Tr) (A : Option Addr) (cap : Nat) (w : World) :
    Calls Try.prog 108 #[nodeV 55 n s A c.length cap] w fun e w' => e = .returned (.tuple #[.string ⟨#[98]⟩, .bool true, .bool true]) ∧ Below w.heap.size w w' := by
  unfold nodeV
  go_enter Try.func108, Try.ntmps108
  go_wp2_with fail
  go_ret3
  exact ⟨rfl, (Below.refl _ _).alloc (Nat.le_refl _) _⟩

theorem shape_50 (n : Int) (s : ByteArray) (c : List Tr) (A : Option Addr) (cap : Nat) (w : World) (hl : c.length ≤ 8) :
    Calls Try.prog 108 #[nodeV 50 n s A c.length cap] w fun e w' => e = .returned (.tuple #[.string (ByteArray.extract ⟨#[118, 118, 118, 118, 118, 118, 118, 118]⟩ 0 c.length), .bool true, .bool true]) ∧ Below w.heap.size w w' := by
  unfold nodeV
  go_enter Try.func108, Try.ntmps108
  go_wp2_with fail
  go_ret3
  exact ⟨rfl, (Below.refl _ _).alloc (Nat.le_refl _) _⟩
theorem shape_50_big (n : Int) (s : ByteArray) (c : List Tr) (A : Option Addr) (cap : Nat) (w : World) (hl : 8 < c.length) :
    Calls Try.prog 108 #[nodeV 50 n s A c.length cap] w fun e w' => e = .returned (.tuple #[.string ⟨#[]⟩, .bool true, .bool false]) ∧ Below w.heap.size w w' := by
  unfold nodeV
  go_enter Try.func108, Try.ntmps108
  go_wp2_with fail
  go_ret3
  exact ⟨rfl, (Below.refl _ _).alloc (Nat.le_refl _) _⟩

theorem shape_51 (n : Int) (s : ByteArray) (c : List Tr) (A : Option Addr) (cap : Nat) (w : World) (hl : c.length ≤ 8) :
    Calls Try.prog 108 #[nodeV 51 n s A c.length cap] w fun e w' => e = .returned (.tuple #[.string (ByteArray.extract ⟨#[118, 118, 118, 118, 118, 118, 118, 118]⟩ 0 c.length), .bool true, .bool true]) ∧ Below w.heap.size w w' := by
  unfold nodeV
  go_enter Try.func108, Try.ntmps108
  go_wp2_with fail
  go_ret3
  exact ⟨rfl, (Below.refl _ _).alloc (Nat.le_refl _) _⟩
theorem shape_51_big (n : Int) (s : ByteArray) (c : List Tr) (A : Option Addr) (cap : Nat) (w : World) (hl : 8 < c.length) :
    Calls Try.prog 108 #[nodeV 51 n s A c.length cap] w fun e w' => e = .returned (.tuple #[.string ⟨#[]⟩, .bool true, .bool false]) ∧ Below w.heap.size w w' := by
  unfold nodeV
  go_enter Try.func108, Try.ntmps108
  go_wp2_with fail
  go_ret3
  exact ⟨rfl, (Below.refl _ _).alloc (Nat.le_refl _) _⟩

theorem shape_other (k : Int) (n : Int) (s : ByteArray) (c : List Tr) (A : Option Addr) (cap : Nat) (w : World) (e40 : (k == 40) = false) (e41 : (k == 41) = false) (e42 : (k == 42) = false) (e56 : (k == 56) = false) (e43 : (k == 43) = false) (e44 : (k == 44) = false) (e45 : (k == 45) = false) (e46 : (k == 46) = false) (e47 : (k == 47) = false) (e48 : (k == 48) = false) (e49 : (k == 49) = false) (e52 : (k == 52) = false) (e53 : (k == 53) = false) (e54 : (k == 54) = false) (e55 : (k == 55) = false) (e50 : (k == 50) = false) (e51 : (k == 51) = false) :
    Calls Try.prog 108 #[nodeV k n s A c.length cap] w fun e w' => e = .returned (.tuple #[.string ⟨#[]⟩, .bool false, .bool false]) ∧ Below w.heap.size w w' := by
  unfold nodeV
  go_enter Try.func108, Try.ntmps108
  go_wp2_with fail
  go_ret3
  exact ⟨rfl, (Below.refl _ _).alloc (Nat.le_refl _) _⟩

end Go.Proofs.Ytlpgapmbajblmaa
