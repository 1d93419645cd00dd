import Derived.Test.YtmglacjcefajlaaBB
import Derived.Test.YtmglacjcefajlaaBA
/- Valid expressions, places, statements, blocks: the plain tests; plain, named, kids, every. -/
namespace Go.Proofs.Ytmglacjcefajlaa
open Go.RowKit Go.Shelf

def emptyB (s : ByteArray) : Bool := s.toList.isEmpty
def plainB (n : Int) (s : ByteArray) : Bool := (n == 0) && emptyB s
def namedB (n : Int) (s : ByteArray) : Bool := (n == 0) && nameB s

/-- a node's contract: with the value of the tree t it returns the bool, and nothing that lay there turns -/
def Tests (f : Nat) (p : Tr → Bool) (t : Tr) : Prop := ∀ (v : Value) (w : World), Rep w w.heap.size t v → Calls Try.prog f #[v] w fun e w' => e = .returned (.bool (p t)) ∧ Below w.heap.size w w'

theorem plain_any (t : Tr) : Tests 42 (fun t => plainB t.num t.name) t := by
 cases t with
 | mk k n s c =>
 intro v w hr
 simp only [Rep] at hr
 obtain ⟨A, cap, rfl, hf, hrow⟩ := hr
 clear hrow
 unfold nodeV
 cases hn : (n == 0)
 ·go_enter Try.func42, Try.ntmps42
  go_wp2_with fail
  go_ret
  exact ⟨by simp [plainB, Tr.num, hn], (Below.refl _ _).alloc (Nat.le_refl _) _⟩
 ·go_enter Try.func42, Try.ntmps42
  go_wp2_with fail
  go_ret
  exact ⟨by simp [plainB, emptyB, Tr.num, Tr.name, hn], (Below.refl _ _).alloc (Nat.le_refl _) _⟩

theorem named_any (t : Tr) : Tests 46 (fun t => namedB t.num t.name) t := by
 cases t with
 | mk k n s c =>
 intro v w hr
 simp only [Rep] at hr
 obtain ⟨A, cap, rfl, hf, hrow⟩ := hr
 clear hrow
 unfold nodeV
 cases hn : (n == 0)
 ·go_enter Try.func46, Try.ntmps46
  go_wp2_with fail
  go_ret
  exact ⟨by simp [namedB, Tr.num, hn], (Below.refl _ _).alloc (Nat.le_refl _) _⟩
 ·go_enter Try.func46, Try.ntmps46
  go_wp2_with fail
  refine (name_any s hf.s1 _).mono ?_
  rintro e w' ⟨rfl, hb⟩
  go_wp2_with fail
  go_ret
  exact ⟨by simp [namedB, Tr.num, Tr.name, hn], ((Below.refl _ _).alloc (Nat.le_refl _) _).trans (hb.mono (by simp))⟩

set_option maxHeartbeats 400000 in
theorem every_any (p : Tr → Bool) (f : Nat) (eg : ∀ (args : Array Value) (w : World), (callFunc f args).run Try.prog w = .ok (.enter f args) w) (c : List Tr) (hf : ∀ t, t ∈ c → Tests f p t)
  (A : Option Addr) (cap : Nat) (w : World) (hl : c.length ≤ 9223372036854775807) (hrow : RepRow w w.heap.size c A 0) :
  Calls Try.prog 47 #[.slice A c.length cap, .func (.func f) #[] #[]] w fun e w' => e = .returned (.bool (c.all p)) ∧ Below w.heap.size w w' := by
 have HF := Lib.hid hf
 have HR := Lib.hid hrow
 clear hf hrow
 go_enter Try.func47, Try.ntmps47
 go_wp2_with fail
 go_loopw [9] (fun i wr => ∃ k : Nat, k ≤ c.length ∧ i = .int .i64 k ∧ Hid ((c.take k).all p = true) ∧ Below w.heap.size w wr) (fun i _ => c.length - (intOf i).toNat)
 case atStart => exact ⟨0, Nat.zero_le _, rfl, by simp [Hid], Below.refl _ _⟩
 case round =>
  obtain ⟨i, hi, rfl, hall, hb⟩ := hrel
  by_cases hlt : i < c.length
  ·obtain ⟨b, off, A', cap', rfl, hbB, h0, h1, h2, h3, hk⟩ := (HR.out.below hb).kid i hlt
   have hmem : c[i] ∈ c := List.getElem_mem hlt
   have hws := hb.size
   have HT := Lib.hid (show (c.take (i + 1)).all p = ((c.take i).all p && p c[i]) by rw [Tr.take_snoc c i hlt, List.all_append]; simp)
   cases hp : p c[i]
   ·have HP := Lib.hid hp
    clear hp
    go_wp2_with fail
    refine (HF.out _ hmem _ _ (hk.alloc hws _)).mono ?_
    rw [HP.out]
    rintro e w1 ⟨rfl, hb1⟩
    have hb2 := (hb.alloc hws _).trans (hb1.mono (by simp; omega))
    clear hb1
    go_wp2_with fail
    go_ret
    have hf : c.all p = false := by
     rw [List.all_eq_false]
     exact ⟨_, hmem, by rw [HP.out]; simp⟩
    exact ⟨by simp [hf], hb2⟩
   ·have HP := Lib.hid hp
    clear hp
    go_wp2_with fail
    refine (HF.out _ hmem _ _ (hk.alloc hws _)).mono ?_
    rw [HP.out]
    rintro e w1 ⟨rfl, hb1⟩
    have hb2 := (hb.alloc hws _).trans (hb1.mono (by simp; omega))
    clear hb1
    go_wp2_with fail
    go_roundw
    case rel => exact ⟨i + 1, by omega, by go_num, by rw [Hid, HT.out, hall.out, HP.out]; rfl, hb2⟩
    case measure => simp [intOf]; omega
  ·obtain rfl : i = c.length := by omega
   go_wp2_with fail
   go_ret
   have h := hall.out
   rw [List.take_length] at h
   exact ⟨by simp [h], hb⟩

/-- the tests of 'kids', one for each kid -/
def zipB : List (Nat × (Tr → Bool)) → List Tr → Bool
 | [], [] => true
 | p :: ps, t :: ts => p.2 t && zipB ps ts
 | _, _ => false

theorem zipB_len {fs : List (Nat × (Tr → Bool))} : ∀ {c : List Tr}, c.length ≠ fs.length → zipB fs c = false := by
 induction fs with
 | nil => intro c h; cases c with | nil => simp at h | cons => rfl
 | cons p ps ih => intro c h; cases c with | nil => rfl | cons t ts => simp only [zipB]; rw [ih (by simpa using h)]; simp

theorem zipB_of {fs : List (Nat × (Tr → Bool))} : ∀ {c : List Tr}, c.length = fs.length → (∀ (j : Nat) (h : j < fs.length) (h' : j < c.length), fs[j].2 c[j] = true) → zipB fs c = true := by
 induction fs with
 | nil => intro c h _; cases c with | nil => rfl | cons => simp at h
 | cons p ps ih =>
  intro c h hall
  cases c with
  | nil => simp at h
  | cons t ts =>
   simp only [zipB, Bool.and_eq_true]
   exact ⟨hall 0 (by simp) (by simp), ih (by simpa using h) fun j hj hj' => hall (j + 1) (by simpa using hj) (by simpa using hj')⟩

theorem zipB_not {fs : List (Nat × (Tr → Bool))} : ∀ {c : List Tr} (j : Nat) (h : j < fs.length) (h' : j < c.length), fs[j].2 c[j] = false → zipB fs c = false := by
 induction fs with
 | nil => intro c j h; exact absurd h (Nat.not_lt_zero _)
 | cons p ps ih =>
  intro c j h h' hf
  cases c with
  | nil => rfl
  | cons t ts =>
   simp only [zipB]
   cases j with
   | zero => simp only [List.getElem_cons_zero] at hf; rw [hf]; rfl
   | succ j => rw [ih j (by simpa using h) (by simpa using h') (by simpa using hf)]; simp

set_option maxHeartbeats 800000 in
theorem kids_any (fs : List (Nat × (Tr → Bool))) (t : Tr) (hfs : ∀ (j : Nat) (h : j < fs.length) (h' : j < t.kids.length), Tests fs[j].1 fs[j].2 t.kids[j])
  (eg : ∀ (j : Nat) (h : j < fs.length) (args : Array Value) (w : World), (callFunc fs[j].1 args).run Try.prog w = .ok (.enter fs[j].1 args) w)
  (v : Value) (w : World) (hr : Rep w w.heap.size t v) (b : Nat) (cap : Nat) (hl : fs.length ≤ 9223372036854775807) (hb : b < w.heap.size)
  (hc : ∀ (j : Nat) (h : j < fs.length), w.cell? ⟨b, j, none⟩ = some (.func (.func fs[j].1) #[] #[])) :
  Calls Try.prog 43 #[v, .slice (some ⟨b, 0, none⟩) fs.length cap] w fun e w' => e = .returned (.bool (zipB fs t.kids)) ∧ Below w.heap.size w w' := by
 cases t with
 | mk k0 n s c =>
 simp only [Tr.kids] at *
 simp only [Rep] at hr
 obtain ⟨A, cap0, rfl, hf, hrow⟩ := hr
 unfold nodeV
 have hl1 := hf.l1
 have hl2 := hf.c1
 have HR := Lib.hid hrow
 have HF := Lib.hid hfs
 have HE := Lib.hid eg
 have HC := Lib.hid hc
 clear hrow hfs eg hc
 by_cases hlen : c.length = fs.length
 ·have hne : ((c.length : Int) != (fs.length : Int)) = false := by simp [hlen]
  have HL := Lib.hid hlen
  have hle1 : c.length ≤ fs.length := by omega
  have hle2 : fs.length ≤ c.length := by omega
  clear hlen
  go_enter Try.func43, Try.ntmps43
  go_wp2_with fail
  go_loopw [15] (fun i wr => ∃ k : Nat, k ≤ fs.length ∧ i = .int .i64 k ∧ Hid (∀ (j : Nat) (h : j < fs.length) (h' : j < c.length), j < k → fs[j].2 c[j] = true) ∧ Below (w.heap.size + 1) (w.alloc (.cells #[.int .u8 k0, .int .i64 n, .string s, .slice A c.length cap0] 26)) wr)
   (fun i _ => fs.length - (intOf i).toNat)
  case atStart => exact ⟨0, Nat.zero_le _, rfl, fun j _ _ h => absurd h (Nat.not_lt_zero _), Below.refl _ _⟩
  case round =>
   obtain ⟨i, hi, rfl, hall, hbw⟩ := hrel
   have hbb : Below w.heap.size w wr := ((Below.refl _ _).alloc (Nat.le_refl _) _).trans (hbw.mono (by omega))
   by_cases hlt : i < fs.length
   ·have hlt' : i < c.length := by omega
    obtain ⟨b', off, A', cap', rfl, hbB, h0, h1, h2, h3, hk⟩ := (HR.out.below hbb).kid i hlt'
    have hws := hbb.size
    have hbox : wr.cell? ⟨w.heap.size, 3, none⟩ = some (.slice (some ⟨b', off, none⟩) c.length cap0) := (hbw.cell (p := ⟨w.heap.size, 3, none⟩) (by simp)).trans (cell_of_row _ _ _ _ _ _ (heap_new w _))
    have hcell : wr.cell? ⟨b, i, none⟩ = some (.func (.func fs[i].1) #[] #[]) := (hbb.cell (p := ⟨b, i, none⟩) hb).trans (HC.out i hlt)
    have hT := HF.out i hlt hlt'
    have hE := HE.out i hlt
    have HT := Lib.hid hT
    clear hT
    cases hp : fs[i].2 c[i]
    ·have HP := Lib.hid hp
     clear hp
     go_wp2_with fail
     refine (HT.out _ _ (hk.more hws)).mono ?_
     rw [HP.out]
     rintro e w1 ⟨rfl, hb1⟩
     have hb2 := hbb.trans (hb1.mono hws)
     clear hb1
     go_wp2_with fail
     go_ret
     have hz := zipB_not i hlt hlt' HP.out
     exact ⟨by simp [hz], hb2⟩
    ·have HP := Lib.hid hp
     clear hp
     go_wp2_with fail
     refine (HT.out _ _ (hk.more hws)).mono ?_
     rw [HP.out]
     rintro e w1 ⟨rfl, hb1⟩
     have hb2 := hbw.trans (hb1.mono (by have := hbw.size; simp at this; omega))
     clear hb1
     go_wp2_with fail
     go_roundw
     case rel =>
      refine ⟨i + 1, by omega, by go_num, fun j hj hj' hjk => ?_, hb2⟩
      by_cases e : j = i
      ·subst e; exact HP.out
      ·exact hall.out j hj hj' (by omega)
     case measure => simp [intOf]; omega
   ·go_wp2_with fail
    go_ret
    have hz := zipB_of HL.out fun j hj hj' => hall.out j hj hj' (by omega)
    exact ⟨by simp [hz], hbb⟩
 ·have hne : ((c.length : Int) != (fs.length : Int)) = true := by simp; omega
  have HZ := Lib.hid (zipB_len hlen)
  clear hlen
  go_enter Try.func43, Try.ntmps43
  go_wp2_with fail
  go_ret
  exact ⟨by simp [HZ.out], (Below.refl _ _).alloc (Nat.le_refl _) _⟩

end Go.Proofs.Ytmglacjcefajlaa
