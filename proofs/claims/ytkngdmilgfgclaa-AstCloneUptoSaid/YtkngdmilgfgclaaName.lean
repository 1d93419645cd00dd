/- Names: the walks of the two packages' tests, and what they compute. -/
import Derived.Test.YtkngdmilgfgclaaProg
import Derived.WalkKit
import Derived.Lib.Hide
import Derived.KernelRfl
import Derived.Deep.LoopGhost
import Derived.Deep.Light
import Derived.Outline
import Derived.WalkSpells
import Derived.WalkLawsBesides
import Derived.RangeFuncOwn
namespace Go.Proofs.Ytkngdmilgfgclaa
open Go.RowKit

def letB (c : Int) : Bool := decide (97 ≤ c) && decide (c ≤ 122)
def digB (c : Int) : Bool := decide (48 ≤ c) && decide (c ≤ 57)
def ldB (c : Int) : Bool := letB c || digB c
def allB (p : Int → Bool) (s : ByteArray) : Bool := s.data.toList.all fun c => p (c.toNat : Int)

theorem letter_any (c : Int) (w : World) : Calls Try.prog 74 #[.int .u8 c] w fun e w' => e = .returned (.bool (letB c)) ∧ w = w' := by
  by_cases h1 : 97 ≤ c
  · by_cases h2 : c ≤ 122
    · go_enter Try.func74, Try.ntmps74
      go_wp2_with fail
      go_ret
      exact ⟨by simp [letB, h1, h2], rfl⟩
    · go_enter Try.func74, Try.ntmps74
      go_wp2_with fail
      go_ret
      exact ⟨by simp [letB]; omega, rfl⟩
  · go_enter Try.func74, Try.ntmps74
    go_wp2_with fail
    go_ret
    exact ⟨by simp [letB]; omega, rfl⟩

theorem digit_any (c : Int) (w : World) : Calls Try.prog 77 #[.int .u8 c] w fun e w' => e = .returned (.bool (digB c)) ∧ w = w' := by
  by_cases h1 : 48 ≤ c
  · by_cases h2 : c ≤ 57
    · go_enter Try.func77, Try.ntmps77
      go_wp2_with fail
      go_ret
      exact ⟨by simp [digB, h1, h2], rfl⟩
    · go_enter Try.func77, Try.ntmps77
      go_wp2_with fail
      go_ret
      exact ⟨by simp [digB]; omega, rfl⟩
  · go_enter Try.func77, Try.ntmps77
    go_wp2_with fail
    go_ret
    exact ⟨by simp [digB]; omega, rfl⟩

theorem rletter_any (c : Int) (w : World) : Calls Try.prog 81 #[.int .u8 c] w fun e w' => e = .returned (.bool (letB c)) ∧ w = w' := by
  by_cases h1 : 97 ≤ c
  · by_cases h2 : c ≤ 122
    · go_enter Try.func81, Try.ntmps81
      go_wp2_with fail
      go_ret
      exact ⟨by simp [letB, h1, h2], rfl⟩
    · go_enter Try.func81, Try.ntmps81
      go_wp2_with fail
      go_ret
      exact ⟨by simp [letB]; omega, rfl⟩
  · go_enter Try.func81, Try.ntmps81
    go_wp2_with fail
    go_ret
    exact ⟨by simp [letB]; omega, rfl⟩

theorem rdigit_any (c : Int) (w : World) : Calls Try.prog 82 #[.int .u8 c] w fun e w' => e = .returned (.bool (digB c)) ∧ w = w' := by
  by_cases h1 : 48 ≤ c
  · by_cases h2 : c ≤ 57
    · go_enter Try.func82, Try.ntmps82
      go_wp2_with fail
      go_ret
      exact ⟨by simp [digB, h1, h2], rfl⟩
    · go_enter Try.func82, Try.ntmps82
      go_wp2_with fail
      go_ret
      exact ⟨by simp [digB]; omega, rfl⟩
  · go_enter Try.func82, Try.ntmps82
    go_wp2_with fail
    go_ret
    exact ⟨by simp [digB]; omega, rfl⟩

theorem ld_any (c : Int) (w : World) : Calls Try.prog 76 #[.int .u8 c] w fun e w' => e = .returned (.bool (ldB c)) ∧ w = w' := by
  cases h1 : letB c
  · have H := Lib.hid h1
    clear h1
    go_enter Try.func76, Try.ntmps76
    go_wp2_with fail
    refine (letter_any c _).mono ?_
    rw [H.out]
    rintro e w' ⟨rfl, rfl⟩
    go_wp2_with fail
    refine (digit_any c _).mono ?_
    rintro e w' ⟨rfl, rfl⟩
    go_wp2_with fail
    go_ret
    exact ⟨by simp [ldB, H.out], rfl⟩
  · have H := Lib.hid h1
    clear h1
    go_enter Try.func76, Try.ntmps76
    go_wp2_with fail
    refine (letter_any c _).mono ?_
    rw [H.out]
    rintro e w' ⟨rfl, rfl⟩
    go_wp2_with fail
    go_ret
    exact ⟨by simp [ldB, H.out], rfl⟩

theorem allB_at {p : Int → Bool} {s : ByteArray} : allB p s = true ↔ ∀ (k : Nat) (h : k < s.size), p (s[k].toNat : Int) = true := by
  unfold allB
  rw [List.all_eq_true]
  constructor
  · intro h k hk
    exact h _ (by simp [ByteArray.getElem_eq_getElem_data])
  · intro h c hc
    obtain ⟨k, hk, rfl⟩ := List.getElem_of_mem hc
    exact h k (by simpa using hk)

def SpanPost (p : Int → Bool) (s : ByteArray) (w : World) (e : Ending) (w' : World) : Prop :=
  ∃ n : Nat, e = .returned (.int .i64 n) ∧ n ≤ s.size ∧ (n = s.size ↔ allB p s = true) ∧ w = w'

set_option maxHeartbeats 400000 in
theorem span_any (p : Int → Bool) (f : Nat) (hf : ∀ (c : Int) (w : World), Calls Try.prog f #[.int .u8 c] w fun e w' => e = .returned (.bool (p c)) ∧ w = w')
    (eg : ∀ (args : Array Value) (w : World), (callFunc f args).run Try.prog w = .ok (.enter f args) w) (s : ByteArray) (hs : s.size ≤ 9223372036854775807) (w : World) :
    Calls Try.prog 75 #[.string s, .func (.func f) #[] #[]] w (SpanPost p s w) := by
  have HF := Lib.hid hf
  clear hf
  go_enter Try.func75, Try.ntmps75
  go_wp2_with fail
  go_loop [8] (fun i => ∃ k : Nat, k ≤ s.size ∧ i = .int .i64 k ∧ Hid (∀ (j : Nat) (h : j < s.size), j < k → p (s[j].toNat : Int) = true)) (fun i => s.size - (intOf i).toNat)
  case atStart => exact ⟨0, Nat.zero_le _, rfl, fun j _ h => absurd h (Nat.not_lt_zero _)⟩
  case round =>
    obtain ⟨k, hk, rfl, hall⟩ := hrel
    by_cases hlt : k < s.size
    · cases hp : p (s[k].toNat : Int)
      · have H := Lib.hid hp
        clear hp
        go_wp2_with fail
        refine (HF.out _ _).mono ?_
        rw [H.out]
        rintro e w' ⟨rfl, rfl⟩
        go_wp2_with fail
        go_ret
        exact ⟨k, rfl, hk, ⟨fun e => absurd hlt (by omega), fun h => by have := allB_at.1 h k hlt; rw [H.out] at this; cases this⟩, rfl⟩
      · have H := Lib.hid hp
        clear hp
        go_wp2_with fail
        refine (HF.out _ _).mono ?_
        rw [H.out]
        rintro e w' ⟨rfl, rfl⟩
        go_wp2_with fail
        go_round
        case rel =>
          refine ⟨k + 1, by omega, by go_num, fun j hj hjk => ?_⟩
          by_cases e : j = k
          · subst e; exact H.out
          · exact hall.out j hj (by omega)
        case measure => simp [intOf]; omega
    · go_wp2_with fail
      go_ret
      exact ⟨s.size, rfl, Nat.le_refl _, ⟨fun _ => allB_at.2 fun j hj => hall.out j hj (by omega), fun _ => rfl⟩, rfl⟩

end Go.Proofs.Ytkngdmilgfgclaa
