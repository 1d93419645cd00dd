/- Keyword: the map of the keywords, laid and asked. -/
import Derived.Test.YtkngdmilgfgclaaName
import Derived.Carry
namespace Go.Proofs.Ytkngdmilgfgclaa
open Go.RowKit

def kws : List ByteArray := [⟨#[105, 110, 116]⟩, ⟨#[97, 114, 114, 97, 121]⟩, ⟨#[115, 116, 97, 99, 107]⟩, ⟨#[112, 114, 111, 99]⟩, ⟨#[109, 97, 105, 110]⟩, ⟨#[112, 117, 115, 104]⟩, ⟨#[112, 111, 112]⟩, ⟨#[114, 101, 97, 100]⟩, ⟨#[117, 110, 114, 101, 97, 100]⟩, ⟨#[119, 114, 105, 116, 101]⟩, ⟨#[117, 110, 119, 114, 105, 116, 101]⟩, ⟨#[99, 97, 108, 108]⟩, ⟨#[117, 110, 99, 97, 108, 108]⟩, ⟨#[105, 102]⟩, ⟨#[101, 108, 115, 101]⟩, ⟨#[102, 105]⟩, ⟨#[102, 114, 111, 109]⟩, ⟨#[108, 111, 111, 112]⟩, ⟨#[117, 110, 116, 105, 108]⟩, ⟨#[108, 111, 99, 97, 108]⟩, ⟨#[100, 101, 108, 111, 99, 97, 108]⟩, ⟨#[116, 111, 112]⟩, ⟨#[115, 105, 122, 101]⟩]
def kwB (s : ByteArray) : Bool := kws.contains s

def entsFrom : List ByteArray → Nat → List MapEntry
  | [], _ => []
  | k :: r, i => ⟨.string k, .bool true, i⟩ :: entsFrom r (i + 1)

theorem entsFrom_append (a : List ByteArray) : ∀ (b : List ByteArray) (i : Nat), entsFrom (a ++ b) i = entsFrom a i ++ entsFrom b (i + a.length) := by
  induction a with
  | nil => intro b i; simp [entsFrom]
  | cons x r ih => intro b i; simp only [List.cons_append, entsFrom, ih, List.length_cons]; rw [show i + 1 + r.length = i + (r.length + 1) from by omega]

theorem findNow_ents (s : ByteArray) : ∀ (l : List ByteArray) (i j : Nat), (l.contains s = false → Instr.findNow .string (.string s) (entsFrom l i) j = some none) ∧
    (l.contains s = true → ∃ m, Instr.findNow .string (.string s) (entsFrom l i) j = some (some (m, .bool true)))
  | [], i, j => by simp [entsFrom, Instr.findNow]
  | k :: r, i, j => by
    have ih := findNow_ents s r (i + 1) (j + 1)
    simp only [entsFrom, Instr.findNow, Instr.sameNow, List.contains_cons]
    cases h : (s == k)
    · simpa using ih
    · simp

/-- the entries of the first i keywords -/
def ents (i : Nat) : Array MapEntry := (entsFrom (kws.take i) 0).toArray

theorem kwT : Try.prog.underlying 88 = some (.map 9 4) := by kernel_rfl
theorem kwS : Try.prog.underlying 9 = some .string := by kernel_rfl
theorem kwZ (w : World) : (zeroValue 4).run Try.prog w = .ok (.bool false) w := by kernel_rfl

theorem heap_new (w : World) (o : Obj) : (w.alloc o).heap[w.heap.size]? = some o := World.alloc_heap_new w o
theorem put_new (w : World) (o o' : Obj) : ({ (w.alloc o) with heap := (w.alloc o).heap.setIfInBounds w.heap.size o' } : World) = w.alloc o' := by
  simp only [World.alloc]
  congr 1
  apply Array.ext
  · simp
  · intro k h1 h2
    simp only [Array.size_setIfInBounds, Array.size_push] at h1
    rw [Array.getElem_setIfInBounds (by simpa using h1)]
    by_cases e : w.heap.size = k
    · subst e; simp
    · simp only [e, if_false]
      have hk : k < w.heap.size := by omega
      rw [Array.getElem_push_lt hk, Array.getElem_push_lt hk]

theorem ins (i : Nat) (k : ByteArray) (hk : kws[i]? = some k) (hnew : (kws.take i).contains k = false) (w : World) :
    (Instr.mapUpdate 88 (.map (some w.heap.size)) (.string k) (.bool true)).run Try.prog (w.alloc (.map (ents i) i)) = .ok () (w.alloc (.map (ents (i + 1)) (i + 1))) := by
  have hfind := (findNow_ents k (kws.take i) 0 0).1 hnew
  have hil : i < kws.length := (List.getElem?_eq_some_iff.1 hk).1
  have hpush : (ents i).push ⟨.string k, .bool true, i⟩ = ents (i + 1) := by
    unfold ents
    rw [List.take_add_one, hk]
    simp only [Option.toList_some]
    rw [entsFrom_append, List.length_take]
    simp only [entsFrom, Nat.zero_add]
    rw [Nat.min_eq_left (by omega)]
    simp
  have hb : (w.alloc (.map (ents i) i)).heap[w.heap.size]? = some (.map (ents i) i) := heap_new w _
  have hf : Instr.findNow .string (.string k) (ents i).toList 0 = some none := by simpa [ents] using hfind
  simp only [Instr.mapUpdate, Sem.run_bind, run_underlying kwT, MapKept.run_getObj_map hb, MapKept.run_checkKey kwS (k := .string k) trivial, MapKept.run_findKey kwS hf, Result.andThen, MapKept.run_setObj_map _ hb, put_new, hpush]

theorem kw_look (s : ByteArray) (w : World) :
    (Instr.lookup 88 (.map (some w.heap.size)) (.string s) false).run Try.prog (w.alloc (.map (ents 23) 23)) = .ok (.bool (kwB s)) (w.alloc (.map (ents 23) 23)) := by
  have hb : (w.alloc (.map (ents 23) 23)).heap[w.heap.size]? = some (.map (ents 23) 23) := heap_new w _
  have ht : kws.take 23 = kws := by decide
  have h2 := findNow_ents s kws 0 0
  cases hc : kws.contains s
  · have hf : Instr.findNow .string (.string s) (ents 23).toList 0 = some none := by simpa [ents, ht] using h2.1 hc
    simp only [Instr.lookup, Sem.run_bind, run_underlying kwT, MapKept.run_getObj_map hb, Sem.run_pure, MapKept.run_checkKey kwS (k := .string s) trivial, MapKept.run_findKey kwS hf, Result.andThen, kwZ, kwB, hc]
    rfl
  · obtain ⟨m, hm⟩ := h2.2 hc
    have hf : Instr.findNow .string (.string s) (ents 23).toList 0 = some (some (m, .bool true)) := by simpa [ents, ht] using hm
    simp only [Instr.lookup, Sem.run_bind, run_underlying kwT, MapKept.run_getObj_map hb, Sem.run_pure, MapKept.run_checkKey kwS (k := .string s) trivial, MapKept.run_findKey kwS hf, Result.andThen, kwB, hc]
    rfl

theorem ba_eq {a b : ByteArray} : (a == b) = true ↔ a = b := by
  cases a with | mk x => cases b with | mk y =>
  rw [ByteArray.mk.injEq]
  show (x == y) = true ↔ x = y
  exact beq_iff_eq

theorem kws_mem {l : List ByteArray} {s : ByteArray} (h : l.contains s = true) : s ∈ l := by
  induction l with
  | nil => cases h
  | cons x r ih =>
    rw [List.contains_cons, Bool.or_eq_true, ba_eq] at h
    rcases h with rfl | h
    · exact List.mem_cons_self
    · exact List.mem_cons_of_mem _ (ih h)

theorem kw_len : ∀ k ∈ kws, 2 ≤ k.size ∧ k.size ≤ 7 := by decide

theorem kwB_out (s : ByteArray) (h : s.size < 2 ∨ 7 < s.size) : kwB s = false := by
  cases hc : kwB s
  · rfl
  · have := kw_len s (kws_mem hc)
    omega

set_option maxHeartbeats 400000 in
theorem keyword_any (s : ByteArray) (w : World) :
    Calls Try.prog 69 #[.string s] w fun e w' => e = .returned (.bool (kwB s)) ∧ Below w.heap.size w w' := by
  by_cases h1 : 2 ≤ s.size
  · by_cases h2 : s.size ≤ 7
    · have hmm : ∀ (w : World), (Instr.makeMap 88 none).run Try.prog w = .ok (.map (some w.heap.size)) (w.alloc (.map (ents 0) 0)) := fun w => run_makeMap _ w
      have i0 := ins 0 ⟨#[105, 110, 116]⟩ rfl (by decide)
      have i1 := ins 1 ⟨#[97, 114, 114, 97, 121]⟩ rfl (by decide)
      have i2 := ins 2 ⟨#[115, 116, 97, 99, 107]⟩ rfl (by decide)
      have i3 := ins 3 ⟨#[112, 114, 111, 99]⟩ rfl (by decide)
      have i4 := ins 4 ⟨#[109, 97, 105, 110]⟩ rfl (by decide)
      have i5 := ins 5 ⟨#[112, 117, 115, 104]⟩ rfl (by decide)
      have i6 := ins 6 ⟨#[112, 111, 112]⟩ rfl (by decide)
      have i7 := ins 7 ⟨#[114, 101, 97, 100]⟩ rfl (by decide)
      have i8 := ins 8 ⟨#[117, 110, 114, 101, 97, 100]⟩ rfl (by decide)
      have i9 := ins 9 ⟨#[119, 114, 105, 116, 101]⟩ rfl (by decide)
      have i10 := ins 10 ⟨#[117, 110, 119, 114, 105, 116, 101]⟩ rfl (by decide)
      have i11 := ins 11 ⟨#[99, 97, 108, 108]⟩ rfl (by decide)
      have i12 := ins 12 ⟨#[117, 110, 99, 97, 108, 108]⟩ rfl (by decide)
      have i13 := ins 13 ⟨#[105, 102]⟩ rfl (by decide)
      have i14 := ins 14 ⟨#[101, 108, 115, 101]⟩ rfl (by decide)
      have i15 := ins 15 ⟨#[102, 105]⟩ rfl (by decide)
      have i16 := ins 16 ⟨#[102, 114, 111, 109]⟩ rfl (by decide)
      have i17 := ins 17 ⟨#[108, 111, 111, 112]⟩ rfl (by decide)
      have i18 := ins 18 ⟨#[117, 110, 116, 105, 108]⟩ rfl (by decide)
      have i19 := ins 19 ⟨#[108, 111, 99, 97, 108]⟩ rfl (by decide)
      have i20 := ins 20 ⟨#[100, 101, 108, 111, 99, 97, 108]⟩ rfl (by decide)
      have i21 := ins 21 ⟨#[116, 111, 112]⟩ rfl (by decide)
      have i22 := ins 22 ⟨#[115, 105, 122, 101]⟩ rfl (by decide)
      have hlk := kw_look s
      go_enter Try.func69, Try.ntmps69
      go_wp2_with fail
      go_ret
      exact ⟨rfl, (Below.refl _ _).alloc (Nat.le_refl _) _⟩
    · have hz := kwB_out s (by omega)
      have HZ := Lib.hid hz
      clear hz
      go_enter Try.func69, Try.ntmps69
      go_wp2_with fail
      go_ret
      exact ⟨by simp [HZ.out], Below.refl _ _⟩
  · have hz := kwB_out s (by omega)
    have HZ := Lib.hid hz
    clear hz
    go_enter Try.func69, Try.ntmps69
    go_wp2_with fail
    go_ret
    exact ⟨by simp [HZ.out], Below.refl _ _⟩

end Go.Proofs.Ytkngdmilgfgclaa
