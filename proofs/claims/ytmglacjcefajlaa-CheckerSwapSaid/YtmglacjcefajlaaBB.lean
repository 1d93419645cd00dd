import Derived.Test.YtmglacjcefajlaaProg
import Derived.WalkKit
import Derived.Lib.Hide
import Derived.KernelRfl
import Derived.Deep.LoopGhost
import Derived.Deep.Light
import Derived.Outline
import Derived.WalkSpells
import Derived.WalkLawsBesides
import Derived.RangeFuncOwn
import Derived.Carry
import Derived.Laws.Externs
import Derived.Shelf.Abstract
import Derived.Deep.QuietTactic
import Derived.BigQuiet
import Derived.WalkSmall
/- Names: the walks of the two packages' tests, and what they compute. -/
namespace Go.Proofs.Ytmglacjcefajlaa
open Go.RowKit

def letB (c : Int) : Bool := decide (97 ≤ c) && decide (c ≤ 122)
def digB (c : Int) : Bool := decide (48 ≤ c) && decide (c ≤ 57)
def ldB (c : Int) : Bool := letB c || digB c
def allB (p : Int → Bool) (s : ByteArray) : Bool := s.data.toList.all fun c => p (c.toNat : Int)

theorem letter_any (c : Int) (w : World) : Calls Try.prog 74 #[.int .u8 c] w fun e w' => e = .returned (.bool (letB c)) ∧ w = w' := by
  by_cases h1 : 97 ≤ c
  · by_cases h2 : c ≤ 122
    · go_enter Try.func74, Try.ntmps74
      go_wp2_with fail
      go_ret
      exact ⟨by simp [letB, h1, h2], rfl⟩
    · go_enter Try.func74, Try.ntmps74
      go_wp2_with fail
      go_ret
      exact ⟨by simp [letB]; omega, rfl⟩
  · go_enter Try.func74, Try.ntmps74
    go_wp2_with fail
    go_ret
    exact ⟨by simp [letB]; omega, rfl⟩

theorem digit_any (c : Int) (w : World) : Calls Try.prog 77 #[.int .u8 c] w fun e w' => e = .returned (.bool (digB c)) ∧ w = w' := by
  by_cases h1 : 48 ≤ c
  · by_cases h2 : c ≤ 57
    · go_enter Try.func77, Try.ntmps77
      go_wp2_with fail
      go_ret
      exact ⟨by simp [digB, h1, h2], rfl⟩
    · go_enter Try.func77, Try.ntmps77
      go_wp2_with fail
      go_ret
      exact ⟨by simp [digB]; omega, rfl⟩
  · go_enter Try.func77, Try.ntmps77
    go_wp2_with fail
    go_ret
    exact ⟨by simp [digB]; omega, rfl⟩

theorem ld_any (c : Int) (w : World) : Calls Try.prog 76 #[.int .u8 c] w fun e w' => e = .returned (.bool (ldB c)) ∧ w = w' := by
  cases h1 : letB c
  · have H := Lib.hid h1
    clear h1
    go_enter Try.func76, Try.ntmps76
    go_wp2_with fail
    refine (letter_any c _).mono ?_
    rw [H.out]
    rintro e w' ⟨rfl, rfl⟩
    go_wp2_with fail
    refine (digit_any c _).mono ?_
    rintro e w' ⟨rfl, rfl⟩
    go_wp2_with fail
    go_ret
    exact ⟨by simp [ldB, H.out], rfl⟩
  · have H := Lib.hid h1
    clear h1
    go_enter Try.func76, Try.ntmps76
    go_wp2_with fail
    refine (letter_any c _).mono ?_
    rw [H.out]
    rintro e w' ⟨rfl, rfl⟩
    go_wp2_with fail
    go_ret
    exact ⟨by simp [ldB, H.out], rfl⟩

theorem allB_at {p : Int → Bool} {s : ByteArray} : allB p s = true ↔ ∀ (k : Nat) (h : k < s.size), p (s[k].toNat : Int) = true := by
  unfold allB
  rw [List.all_eq_true]
  constructor
  · intro h k hk
    exact h _ (by simp [ByteArray.getElem_eq_getElem_data])
  · intro h c hc
    obtain ⟨k, hk, rfl⟩ := List.getElem_of_mem hc
    exact h k (by simpa using hk)

def SpanPost (p : Int → Bool) (s : ByteArray) (w : World) (e : Ending) (w' : World) : Prop :=
  ∃ n : Nat, e = .returned (.int .i64 n) ∧ n ≤ s.size ∧ (n = s.size ↔ allB p s = true) ∧ w = w'

set_option maxHeartbeats 400000 in
theorem span_any (p : Int → Bool) (f : Nat) (hf : ∀ (c : Int) (w : World), Calls Try.prog f #[.int .u8 c] w fun e w' => e = .returned (.bool (p c)) ∧ w = w')
    (eg : ∀ (args : Array Value) (w : World), (callFunc f args).run Try.prog w = .ok (.enter f args) w) (s : ByteArray) (hs : s.size ≤ 9223372036854775807) (w : World) :
    Calls Try.prog 75 #[.string s, .func (.func f) #[] #[]] w (SpanPost p s w) := by
  have HF := Lib.hid hf
  clear hf
  go_enter Try.func75, Try.ntmps75
  go_wp2_with fail
  go_loop [8] (fun i => ∃ k : Nat, k ≤ s.size ∧ i = .int .i64 k ∧ Hid (∀ (j : Nat) (h : j < s.size), j < k → p (s[j].toNat : Int) = true)) (fun i => s.size - (intOf i).toNat)
  case atStart => exact ⟨0, Nat.zero_le _, rfl, fun j _ h => absurd h (Nat.not_lt_zero _)⟩
  case round =>
    obtain ⟨k, hk, rfl, hall⟩ := hrel
    by_cases hlt : k < s.size
    · cases hp : p (s[k].toNat : Int)
      · have H := Lib.hid hp
        clear hp
        go_wp2_with fail
        refine (HF.out _ _).mono ?_
        rw [H.out]
        rintro e w' ⟨rfl, rfl⟩
        go_wp2_with fail
        go_ret
        exact ⟨k, rfl, hk, ⟨fun e => absurd hlt (by omega), fun h => by have := allB_at.1 h k hlt; rw [H.out] at this; cases this⟩, rfl⟩
      · have H := Lib.hid hp
        clear hp
        go_wp2_with fail
        refine (HF.out _ _).mono ?_
        rw [H.out]
        rintro e w' ⟨rfl, rfl⟩
        go_wp2_with fail
        go_round
        case rel =>
          refine ⟨k + 1, by omega, by go_num, fun j hj hjk => ?_⟩
          by_cases e : j = k
          · subst e; exact H.out
          · exact hall.out j hj (by omega)
        case measure => simp [intOf]; omega
    · go_wp2_with fail
      go_ret
      exact ⟨s.size, rfl, Nat.le_refl _, ⟨fun _ => allB_at.2 fun j hj => hall.out j hj (by omega), fun _ => rfl⟩, rfl⟩

end Go.Proofs.Ytmglacjcefajlaa

/- Keyword: the map of the keywords, laid and asked. -/
namespace Go.Proofs.Ytmglacjcefajlaa
open Go.RowKit

def kws : List ByteArray := [⟨#[105, 110, 116]⟩, ⟨#[97, 114, 114, 97, 121]⟩, ⟨#[115, 116, 97, 99, 107]⟩, ⟨#[112, 114, 111, 99]⟩, ⟨#[109, 97, 105, 110]⟩, ⟨#[112, 117, 115, 104]⟩, ⟨#[112, 111, 112]⟩, ⟨#[114, 101, 97, 100]⟩, ⟨#[117, 110, 114, 101, 97, 100]⟩, ⟨#[119, 114, 105, 116, 101]⟩, ⟨#[117, 110, 119, 114, 105, 116, 101]⟩, ⟨#[99, 97, 108, 108]⟩, ⟨#[117, 110, 99, 97, 108, 108]⟩, ⟨#[105, 102]⟩, ⟨#[101, 108, 115, 101]⟩, ⟨#[102, 105]⟩, ⟨#[102, 114, 111, 109]⟩, ⟨#[108, 111, 111, 112]⟩, ⟨#[117, 110, 116, 105, 108]⟩, ⟨#[108, 111, 99, 97, 108]⟩, ⟨#[100, 101, 108, 111, 99, 97, 108]⟩, ⟨#[116, 111, 112]⟩, ⟨#[115, 105, 122, 101]⟩]
def kwB (s : ByteArray) : Bool := kws.contains s

def entsFrom : List ByteArray → Nat → List MapEntry
  | [], _ => []
  | k :: r, i => ⟨.string k, .bool true, i⟩ :: entsFrom r (i + 1)

theorem entsFrom_append (a : List ByteArray) : ∀ (b : List ByteArray) (i : Nat), entsFrom (a ++ b) i = entsFrom a i ++ entsFrom b (i + a.length) := by
  induction a with
  | nil => intro b i; simp [entsFrom]
  | cons x r ih => intro b i; simp only [List.cons_append, entsFrom, ih, List.length_cons]; rw [show i + 1 + r.length = i + (r.length + 1) from by omega]

theorem findNow_ents (s : ByteArray) : ∀ (l : List ByteArray) (i j : Nat), (l.contains s = false → Instr.findNow .string (.string s) (entsFrom l i) j = some none) ∧
    (l.contains s = true → ∃ m, Instr.findNow .string (.string s) (entsFrom l i) j = some (some (m, .bool true)))
  | [], i, j => by simp [entsFrom, Instr.findNow]
  | k :: r, i, j => by
    have ih := findNow_ents s r (i + 1) (j + 1)
    simp only [entsFrom, Instr.findNow, Instr.sameNow, List.contains_cons]
    cases h : (s == k)
    · simpa using ih
    · simp

/-- the entries of the first i keywords -/
def ents (i : Nat) : Array MapEntry := (entsFrom (kws.take i) 0).toArray

theorem kwT : Try.prog.underlying 97 = some (.map 9 4) := by kernel_rfl
theorem kwS : Try.prog.underlying 9 = some .string := by kernel_rfl
theorem kwZ (w : World) : (zeroValue 4).run Try.prog w = .ok (.bool false) w := by kernel_rfl

theorem heap_new (w : World) (o : Obj) : (w.alloc o).heap[w.heap.size]? = some o := World.alloc_heap_new w o
theorem put_new (w : World) (o o' : Obj) : ({ (w.alloc o) with heap := (w.alloc o).heap.setIfInBounds w.heap.size o' } : World) = w.alloc o' := by
  simp only [World.alloc]
  congr 1
  apply Array.ext
  · simp
  · intro k h1 h2
    simp only [Array.size_setIfInBounds, Array.size_push] at h1
    rw [Array.getElem_setIfInBounds (by simpa using h1)]
    by_cases e : w.heap.size = k
    · subst e; simp
    · simp only [e, if_false]
      have hk : k < w.heap.size := by omega
      rw [Array.getElem_push_lt hk, Array.getElem_push_lt hk]

theorem ins (i : Nat) (k : ByteArray) (hk : kws[i]? = some k) (hnew : (kws.take i).contains k = false) (w : World) :
    (Instr.mapUpdate 97 (.map (some w.heap.size)) (.string k) (.bool true)).run Try.prog (w.alloc (.map (ents i) i)) = .ok () (w.alloc (.map (ents (i + 1)) (i + 1))) := by
  have hfind := (findNow_ents k (kws.take i) 0 0).1 hnew
  have hil : i < kws.length := (List.getElem?_eq_some_iff.1 hk).1
  have hpush : (ents i).push ⟨.string k, .bool true, i⟩ = ents (i + 1) := by
    unfold ents
    rw [List.take_add_one, hk]
    simp only [Option.toList_some]
    rw [entsFrom_append, List.length_take]
    simp only [entsFrom, Nat.zero_add]
    rw [Nat.min_eq_left (by omega)]
    simp
  have hb : (w.alloc (.map (ents i) i)).heap[w.heap.size]? = some (.map (ents i) i) := heap_new w _
  have hf : Instr.findNow .string (.string k) (ents i).toList 0 = some none := by simpa [ents] using hfind
  simp only [Instr.mapUpdate, Sem.run_bind, run_underlying kwT, MapKept.run_getObj_map hb, MapKept.run_checkKey kwS (k := .string k) trivial, MapKept.run_findKey kwS hf, Result.andThen, MapKept.run_setObj_map _ hb, put_new, hpush]

theorem kw_look (s : ByteArray) (w : World) :
    (Instr.lookup 97 (.map (some w.heap.size)) (.string s) false).run Try.prog (w.alloc (.map (ents 23) 23)) = .ok (.bool (kwB s)) (w.alloc (.map (ents 23) 23)) := by
  have hb : (w.alloc (.map (ents 23) 23)).heap[w.heap.size]? = some (.map (ents 23) 23) := heap_new w _
  have ht : kws.take 23 = kws := by decide
  have h2 := findNow_ents s kws 0 0
  cases hc : kws.contains s
  · have hf : Instr.findNow .string (.string s) (ents 23).toList 0 = some none := by simpa [ents, ht] using h2.1 hc
    simp only [Instr.lookup, Sem.run_bind, run_underlying kwT, MapKept.run_getObj_map hb, Sem.run_pure, MapKept.run_checkKey kwS (k := .string s) trivial, MapKept.run_findKey kwS hf, Result.andThen, kwZ, kwB, hc]
    rfl
  · obtain ⟨m, hm⟩ := h2.2 hc
    have hf : Instr.findNow .string (.string s) (ents 23).toList 0 = some (some (m, .bool true)) := by simpa [ents, ht] using hm
    simp only [Instr.lookup, Sem.run_bind, run_underlying kwT, MapKept.run_getObj_map hb, Sem.run_pure, MapKept.run_checkKey kwS (k := .string s) trivial, MapKept.run_findKey kwS hf, Result.andThen, kwB, hc]
    rfl

theorem ba_eq {a b : ByteArray} : (a == b) = true ↔ a = b := by
  cases a with | mk x => cases b with | mk y =>
  rw [ByteArray.mk.injEq]
  show (x == y) = true ↔ x = y
  exact beq_iff_eq

theorem kws_mem {l : List ByteArray} {s : ByteArray} (h : l.contains s = true) : s ∈ l := by
  induction l with
  | nil => cases h
  | cons x r ih =>
    rw [List.contains_cons, Bool.or_eq_true, ba_eq] at h
    rcases h with rfl | h
    · exact List.mem_cons_self
    · exact List.mem_cons_of_mem _ (ih h)

theorem kw_len : ∀ k ∈ kws, 2 ≤ k.size ∧ k.size ≤ 7 := by decide

theorem kwB_out (s : ByteArray) (h : s.size < 2 ∨ 7 < s.size) : kwB s = false := by
  cases hc : kwB s
  · rfl
  · have := kw_len s (kws_mem hc)
    omega

set_option maxHeartbeats 400000 in
theorem keyword_any (s : ByteArray) (w : World) :
    Calls Try.prog 53 #[.string s] w fun e w' => e = .returned (.bool (kwB s)) ∧ Below w.heap.size w w' := by
  by_cases h1 : 2 ≤ s.size
  · by_cases h2 : s.size ≤ 7
    · have hmm : ∀ (w : World), (Instr.makeMap 97 none).run Try.prog w = .ok (.map (some w.heap.size)) (w.alloc (.map (ents 0) 0)) := fun w => run_makeMap _ w
      have i0 := ins 0 ⟨#[105, 110, 116]⟩ rfl (by decide)
      have i1 := ins 1 ⟨#[97, 114, 114, 97, 121]⟩ rfl (by decide)
      have i2 := ins 2 ⟨#[115, 116, 97, 99, 107]⟩ rfl (by decide)
      have i3 := ins 3 ⟨#[112, 114, 111, 99]⟩ rfl (by decide)
      have i4 := ins 4 ⟨#[109, 97, 105, 110]⟩ rfl (by decide)
      have i5 := ins 5 ⟨#[112, 117, 115, 104]⟩ rfl (by decide)
      have i6 := ins 6 ⟨#[112, 111, 112]⟩ rfl (by decide)
      have i7 := ins 7 ⟨#[114, 101, 97, 100]⟩ rfl (by decide)
      have i8 := ins 8 ⟨#[117, 110, 114, 101, 97, 100]⟩ rfl (by decide)
      have i9 := ins 9 ⟨#[119, 114, 105, 116, 101]⟩ rfl (by decide)
      have i10 := ins 10 ⟨#[117, 110, 119, 114, 105, 116, 101]⟩ rfl (by decide)
      have i11 := ins 11 ⟨#[99, 97, 108, 108]⟩ rfl (by decide)
      have i12 := ins 12 ⟨#[117, 110, 99, 97, 108, 108]⟩ rfl (by decide)
      have i13 := ins 13 ⟨#[105, 102]⟩ rfl (by decide)
      have i14 := ins 14 ⟨#[101, 108, 115, 101]⟩ rfl (by decide)
      have i15 := ins 15 ⟨#[102, 105]⟩ rfl (by decide)
      have i16 := ins 16 ⟨#[102, 114, 111, 109]⟩ rfl (by decide)
      have i17 := ins 17 ⟨#[108, 111, 111, 112]⟩ rfl (by decide)
      have i18 := ins 18 ⟨#[117, 110, 116, 105, 108]⟩ rfl (by decide)
      have i19 := ins 19 ⟨#[108, 111, 99, 97, 108]⟩ rfl (by decide)
      have i20 := ins 20 ⟨#[100, 101, 108, 111, 99, 97, 108]⟩ rfl (by decide)
      have i21 := ins 21 ⟨#[116, 111, 112]⟩ rfl (by decide)
      have i22 := ins 22 ⟨#[115, 105, 122, 101]⟩ rfl (by decide)
      have hlk := kw_look s
      go_enter Try.func53, Try.ntmps53
      go_wp2_with fail
      go_ret
      exact ⟨rfl, (Below.refl _ _).alloc (Nat.le_refl _) _⟩
    · have hz := kwB_out s (by omega)
      have HZ := Lib.hid hz
      clear hz
      go_enter Try.func53, Try.ntmps53
      go_wp2_with fail
      go_ret
      exact ⟨by simp [HZ.out], Below.refl _ _⟩
  · have hz := kwB_out s (by omega)
    have HZ := Lib.hid hz
    clear hz
    go_enter Try.func53, Try.ntmps53
    go_wp2_with fail
    go_ret
    exact ⟨by simp [HZ.out], Below.refl _ _⟩

end Go.Proofs.Ytmglacjcefajlaa

/- Names, the second part: first, sign, Name; the reference's Kind, In, Name. -/
namespace Go.Proofs.Ytmglacjcefajlaa
open Go.RowKit Go.Shelf

def SomeInt (w : World) (e : Ending) (w' : World) : Prop := ∃ n : Int, e = .returned (.int .i64 n) ∧ w = w'
def SomeBool (w : World) (e : Ending) (w' : World) : Prop := ∃ b : Bool, e = .returned (.bool b) ∧ w = w'

theorem hasPrefix_lite (s t : ByteArray) (_hs : s.size ≤ 9223372036854775807) (_ht : t.size ≤ 9223372036854775807) (w : World) : Calls Try.prog 93 #[.string s, .string t] w (SomeBool w) := by
  by_cases h : t.size ≤ s.size
  · go_enter Try.func93, Try.ntmps93
    go_wp2_with fail
    go_ret
    exact ⟨_, rfl, rfl⟩
  · go_enter Try.func93, Try.ntmps93
    go_wp2_with fail
    go_ret
    exact ⟨_, rfl, rfl⟩

theorem hasPrefix_any (s t : ByteArray) (hs : s.size ≤ 9223372036854775807) (ht : t.size ≤ 9223372036854775807) (w : World) : Calls Try.prog 86 #[.string s, .string t] w (SomeBool w) := by
  go_enter Try.func86, Try.ntmps86
  go_wp2_with fail
  refine (hasPrefix_lite s t hs ht _).mono ?_
  rintro e w' ⟨b, rfl, rfl⟩
  go_wp2_with fail
  go_ret
  exact ⟨b, rfl, rfl⟩

theorem indexByte_lite (s : ByteArray) (c : Int) (w : World) : Calls Try.prog 94 #[.string s, .int .u8 c] w (SomeInt w) := by
  have hx : ∀ W : World, (callFunc 97 #[.string s, .int .u8 c]).run Try.prog W = .ok (.value (.int .i64 (firstIdx s c.toNat.toUInt8))) W := by
    intro W
    rw [run_callFunc_extern Try.func97 (by kernel_rfl) (by kernel_rfl) (by kernel_rfl) (e := Extern.BytealgIndexByte.indexByte) (by kernel_rfl), run_indexByte_string]
    rfl
  go_enter Try.func94, Try.ntmps94
  go_wp2_with fail
  go_ret
  exact ⟨_, rfl, rfl⟩

theorem indexByte_any (s : ByteArray) (c : Int) (w : World) : Calls Try.prog 87 #[.string s, .int .u8 c] w (SomeInt w) := by
  go_enter Try.func87, Try.ntmps87
  go_wp2_with fail
  refine (indexByte_lite s c _).mono ?_
  rintro e w' ⟨b, rfl, rfl⟩
  go_wp2_with fail
  go_ret
  exact ⟨b, rfl, rfl⟩

set_option maxHeartbeats 800000 in
theorem sign_any (s : ByteArray) (h0 : 1 ≤ s.size) (hs : s.size ≤ 9223372036854775807) (w : World) : Calls Try.prog 80 #[.string s] w (SomeInt w) := by
  go_enter Try.func80, Try.ntmps80
  go_wp2_with fail
  refine (hasPrefix_any _ _ hs (by decide) _).mono ?_
  rintro e w' ⟨b, rfl, rfl⟩
  cases b
  · go_wp2_with fail
    all_goals first
      | (with_reducible refine (indexByte_any _ _ _).mono ?_
         rintro e w' ⟨b, rfl, rfl⟩
         go_wp2_with fail
         all_goals (go_ret; exact ⟨_, rfl, rfl⟩))
      | (go_ret; exact ⟨_, rfl, rfl⟩)
  · go_wp2_with fail
    go_ret
    exact ⟨_, rfl, rfl⟩

def blkB (c : Int) : Bool := c == 32 || c == 9 || c == 13 || c == 10
def nlB (c : Int) : Bool := c != 10

theorem blank_any (c : Int) (w : World) : Calls Try.prog 78 #[.int .u8 c] w fun e w' => e = .returned (.bool (blkB c)) ∧ w = w' := by
  by_cases h1 : c = 32
  · subst h1
    go_enter Try.func78, Try.ntmps78
    go_wp2_with fail
    go_ret
    exact ⟨rfl, rfl⟩
  by_cases h2 : c = 9
  · subst h2
    go_enter Try.func78, Try.ntmps78
    go_wp2_with fail
    go_ret
    exact ⟨rfl, rfl⟩
  by_cases h3 : c = 13
  · subst h3
    go_enter Try.func78, Try.ntmps78
    go_wp2_with fail
    go_ret
    exact ⟨rfl, rfl⟩
  have e1 : (c == 32) = false := by simp [h1]
  have e2 : (c == 9) = false := by simp [h2]
  have e3 : (c == 13) = false := by simp [h3]
  go_enter Try.func78, Try.ntmps78
  go_wp2_with fail
  go_ret
  exact ⟨by simp [blkB, h1, h2, h3], rfl⟩

theorem nl_any (c : Int) (w : World) : Calls Try.prog 79 #[.int .u8 c] w fun e w' => e = .returned (.bool (nlB c)) ∧ w = w' := by
  go_enter Try.func79, Try.ntmps79
  go_wp2_with fail
  go_ret
  exact ⟨rfl, rfl⟩

def FirstYes (s : ByteArray) (w : World) (e : Ending) (w' : World) : Prop :=
  ∃ n : Nat, e = .returned (.tuple #[.int .u8 1, .int .i64 n]) ∧ n ≤ s.size ∧ (n = s.size ↔ allB ldB s = true) ∧ w = w'
def FirstNo (w : World) (e : Ending) (w' : World) : Prop :=
  ∃ k n : Int, e = .returned (.tuple #[.int .u8 k, .int .i64 n]) ∧ (k == 1) = false ∧ w = w'

set_option maxHeartbeats 400000 in
theorem first_yes (s : ByteArray) (h0 : 0 < s.size) (hs : s.size ≤ 9223372036854775807) (hl : letB (s[0].toNat : Int) = true) (w : World) :
    Calls Try.prog 52 #[.string s] w (FirstYes s w) := by
  have HL := Lib.hid hl
  clear hl
  go_enter Try.func52, Try.ntmps52
  go_wp2_with fail
  refine (letter_any _ _).mono ?_
  rw [HL.out]
  rintro e w' ⟨rfl, rfl⟩
  go_wp2_with fail
  refine (span_any ldB 76 ld_any (enters_of Try.func76 (by kernel_rfl) rfl) s hs _).mono ?_
  rintro e w' ⟨n, rfl, hn, hall, rfl⟩
  have HA := Lib.hid hall
  clear hall
  go_wp2_with fail
  go_ret2
  exact ⟨n, rfl, hn, HA.out, rfl⟩

set_option maxHeartbeats 400000 in
theorem first_no (s : ByteArray) (h0 : 0 < s.size) (hs : s.size ≤ 9223372036854775807) (hl : letB (s[0].toNat : Int) = false) (w : World) :
    Calls Try.prog 52 #[.string s] w (FirstNo w) := by
  have HL := Lib.hid hl
  clear hl
  cases hd : digB (s[0].toNat : Int)
  · cases hb : blkB (s[0].toNat : Int)
    · have HD := Lib.hid hd
      have HB := Lib.hid hb
      clear hd hb
      cases hc : (((s[0].toNat : Int)) == 35)
      · go_enter Try.func52, Try.ntmps52
        go_wp2_with fail
        refine (letter_any _ _).mono ?_
        rw [HL.out]
        rintro e w' ⟨rfl, rfl⟩
        go_wp2_with fail
        refine (digit_any _ _).mono ?_
        rw [HD.out]
        rintro e w' ⟨rfl, rfl⟩
        go_wp2_with fail
        refine (blank_any _ _).mono ?_
        rw [HB.out]
        rintro e w' ⟨rfl, rfl⟩
        go_wp2_with fail
        refine (sign_any s h0 hs _).mono ?_
        rintro e w' ⟨n, rfl, rfl⟩
        go_wp2_with fail
        go_ret2
        exact ⟨3, n, rfl, rfl, rfl⟩
      · go_enter Try.func52, Try.ntmps52
        go_wp2_with fail
        refine (letter_any _ _).mono ?_
        rw [HL.out]
        rintro e w' ⟨rfl, rfl⟩
        go_wp2_with fail
        refine (digit_any _ _).mono ?_
        rw [HD.out]
        rintro e w' ⟨rfl, rfl⟩
        go_wp2_with fail
        refine (blank_any _ _).mono ?_
        rw [HB.out]
        rintro e w' ⟨rfl, rfl⟩
        go_wp2_with fail
        refine (span_any nlB 79 nl_any (enters_of Try.func79 (by kernel_rfl) rfl) s hs _).mono ?_
        rintro e w' ⟨n, rfl, hn, hall, rfl⟩
        clear hall
        go_wp2_with fail
        go_ret2
        exact ⟨5, n, rfl, rfl, rfl⟩
    · have HD := Lib.hid hd
      have HB := Lib.hid hb
      clear hd hb
      go_enter Try.func52, Try.ntmps52
      go_wp2_with fail
      refine (letter_any _ _).mono ?_
      rw [HL.out]
      rintro e w' ⟨rfl, rfl⟩
      go_wp2_with fail
      refine (digit_any _ _).mono ?_
      rw [HD.out]
      rintro e w' ⟨rfl, rfl⟩
      go_wp2_with fail
      refine (blank_any _ _).mono ?_
      rw [HB.out]
      rintro e w' ⟨rfl, rfl⟩
      go_wp2_with fail
      refine (span_any blkB 78 blank_any (enters_of Try.func78 (by kernel_rfl) rfl) s hs _).mono ?_
      rintro e w' ⟨n, rfl, hn, hall, rfl⟩
      clear hall
      go_wp2_with fail
      go_ret2
      exact ⟨4, n, rfl, rfl, rfl⟩
  · have HD := Lib.hid hd
    clear hd
    go_enter Try.func52, Try.ntmps52
    go_wp2_with fail
    refine (letter_any _ _).mono ?_
    rw [HL.out]
    rintro e w' ⟨rfl, rfl⟩
    go_wp2_with fail
    refine (digit_any _ _).mono ?_
    rw [HD.out]
    rintro e w' ⟨rfl, rfl⟩
    go_wp2_with fail
    refine (span_any digB 77 digit_any (enters_of Try.func77 (by kernel_rfl) rfl) s hs _).mono ?_
    rintro e w' ⟨n, rfl, hn, hall, rfl⟩
    clear hall
    go_wp2_with fail
    go_ret2
    exact ⟨2, n, rfl, rfl, rfl⟩

/-- what both packages call a name -/
def nameB (s : ByteArray) : Bool := decide (0 < s.size) && decide (s.size ≤ 16) && letB (s[0]!.toNat : Int) && allB ldB s && !kwB s

theorem get0 (s : ByteArray) (h : 0 < s.size) : s[0]! = s[0] := getElem!_pos s 0 h

theorem ne_of_pos {s : ByteArray} (h : 0 < s.size) : s.toList.isEmpty = false ∧ ¬ s.toList = [] := by
  rw [ByteArray.toList_eq]
  have : s.data.toList.length = s.size := by simp
  cases hl : s.data.toList with
  | nil => rw [hl] at this; simp at this; omega
  | cons x r => simp
theorem nil_of_zero {s : ByteArray} (h : ¬ 0 < s.size) : s.toList.isEmpty = true ∧ s.toList = [] := by
  rw [ByteArray.toList_eq]
  have : s.data.toList.length = s.size := by simp
  cases hl : s.data.toList with
  | nil => simp
  | cons x r => rw [hl] at this; simp at this; omega

set_option maxHeartbeats 400000 in
theorem name_any (s : ByteArray) (hs : s.size ≤ 9223372036854775807) (w : World) :
    Calls Try.prog 31 #[.string s] w fun e w' => e = .returned (.bool (nameB s)) ∧ Below w.heap.size w w' := by
  by_cases h0 : 0 < s.size
  · obtain ⟨n1, n2⟩ := ne_of_pos h0
    by_cases h16 : s.size ≤ 16
    · cases hl : letB (s[0].toNat : Int)
      · have hn : nameB s = false := by simp [nameB, get0 s h0, hl]
        have HN := Lib.hid hn
        have HL := Lib.hid hl
        clear hn hl
        go_enter Try.func31, Try.ntmps31
        go_wp2_with fail
        refine (first_no s h0 hs HL.out _).mono ?_
        rintro e w' ⟨k, n, rfl, hk, rfl⟩
        go_wp2_with fail
        go_ret
        exact ⟨by simp [HN.out], Below.refl _ _⟩
      · have HL := Lib.hid hl
        clear hl
        cases ha : allB ldB s
        · have hn : nameB s = false := by simp [nameB, ha]
          have HN := Lib.hid hn
          have HA := Lib.hid ha
          clear hn ha
          go_enter Try.func31, Try.ntmps31
          go_wp2_with fail
          refine (first_yes s h0 hs HL.out _).mono ?_
          rintro e w' ⟨n, rfl, hn, hiff, rfl⟩
          have hne : ((n : Int) == (s.size : Int)) = false := by
            have : ¬ n = s.size := fun e => by have := hiff.1 e; rw [HA.out] at this; cases this
            simp; omega
          clear hiff
          go_wp2_with fail
          go_ret
          exact ⟨by simp [HN.out], Below.refl _ _⟩
        · have hn : nameB s = !kwB s := by simp [nameB, ha, h0, h16, HL.out]
          have HN := Lib.hid hn
          have HA := Lib.hid ha
          clear hn ha
          go_enter Try.func31, Try.ntmps31
          go_wp2_with fail
          refine (first_yes s h0 hs HL.out _).mono ?_
          rintro e w' ⟨n, rfl, hn, hiff, rfl⟩
          obtain rfl : n = s.size := hiff.2 HA.out
          clear hiff
          go_wp2_with fail
          refine (keyword_any s _).mono ?_
          rintro e w' ⟨rfl, hb⟩
          go_wp2_with fail
          go_ret
          exact ⟨by simp [HN.out], hb⟩
    · have hn : nameB s = false := by simp [nameB, h16]
      have HN := Lib.hid hn
      clear hn
      go_enter Try.func31, Try.ntmps31
      go_wp2_with fail
      go_ret
      exact ⟨by simp [HN.out], Below.refl _ _⟩
  · have hn : nameB s = false := by simp [nameB, h0]
    have HN := Lib.hid hn
    clear hn
    obtain ⟨n1, n2⟩ := nil_of_zero h0
    go_enter Try.func31, Try.ntmps31
    go_wp2_with fail
    go_ret
    exact ⟨by simp [HN.out], Below.refl _ _⟩

end Go.Proofs.Ytmglacjcefajlaa

/- Names, the third part: the reference's In, Kind, Name. -/
namespace Go.Proofs.Ytmglacjcefajlaa
open Go.RowKit Go.Shelf
end Go.Proofs.Ytmglacjcefajlaa
