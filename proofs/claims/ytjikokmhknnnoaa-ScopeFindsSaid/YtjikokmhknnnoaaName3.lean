/- Names, the third part: the reference's In, Kind, Name. -/
import Derived.Test.YtjikokmhknnnoaaName2
import Derived.WalkSmall
namespace Go.Proofs.Ytjikokmhknnnoaa
open Go.RowKit Go.Shelf

def memB (l : List ByteArray) (s : ByteArray) : Bool := l.contains s
theorem contains_iff {l : List ByteArray} {s : ByteArray} : l.contains s = true ↔ s ∈ l := by
  refine ⟨kws_mem, fun h => ?_⟩
  induction h with
  | head r => simp [List.contains_cons, ba_eq.2 rfl]
  | tail x _ ih => simp only [List.contains_cons, ih, Bool.or_true]

theorem toList_beq (a b : ByteArray) : (a.toList == b.toList) = decide (a = b) := by
  rw [ByteArray.toList_eq, ByteArray.toList_eq]
  by_cases h : a = b
  · subst h; simp
  · have : ¬ a.data.toList = b.data.toList := fun e => h (by cases a; cases b; simpa using e)
    have h2 : ¬ a.data = b.data := fun e => this (by rw [e])
    simp [h, h2]

def sgs : List ByteArray := [⟨#[60, 61, 62]⟩, ⟨#[58, 61]⟩, ⟨#[43, 61]⟩, ⟨#[45, 61]⟩, ⟨#[94, 61]⟩, ⟨#[61, 61]⟩, ⟨#[33, 61]⟩, ⟨#[60, 61]⟩, ⟨#[62, 61]⟩, ⟨#[38, 38]⟩, ⟨#[124, 124]⟩, ⟨#[43]⟩, ⟨#[45]⟩, ⟨#[42]⟩, ⟨#[47]⟩, ⟨#[37]⟩, ⟨#[38]⟩, ⟨#[124]⟩, ⟨#[94]⟩, ⟨#[33]⟩, ⟨#[61]⟩, ⟨#[60]⟩, ⟨#[62]⟩, ⟨#[40]⟩, ⟨#[41]⟩, ⟨#[123]⟩, ⟨#[125]⟩, ⟨#[91]⟩, ⟨#[93]⟩, ⟨#[59]⟩, ⟨#[44]⟩]

def KindPost (s : ByteArray) (w : World) (e : Ending) (w' : World) : Prop :=
  ∃ k : Int, e = .returned (.int .u8 k) ∧ (k == 1) = (decide (0 < s.size) && letB (s[0]!.toNat : Int) && allB ldB s) ∧ Below w.heap.size w w'

def wdB (s : ByteArray) (k : Nat) : Bool := letB (s[0]!.toNat : Int) && (s.data.toList.take k).all fun c => ldB (c.toNat : Int)
theorem wdB_zero (s : ByteArray) (h : 0 < s.size) : wdB s 0 = letB (s[0].toNat : Int) := by simp [wdB, get0 s h]
theorem wdB_succ (s : ByteArray) (k : Nat) (h : k < s.size) : wdB s (k + 1) = (wdB s k && ldB (s[k].toNat : Int)) := by
  have hl : k < s.data.toList.length := by simpa using h
  unfold wdB
  rw [List.take_succ_eq_append_getElem hl, List.all_append, Bool.and_assoc]
  congr 2
  simp [ByteArray.getElem_eq_getElem_data]
theorem wdB_all (s : ByteArray) : wdB s s.size = (letB (s[0]!.toNat : Int) && allB ldB s) := by
  unfold wdB allB
  rw [List.take_of_length_le (by simp)]

end Go.Proofs.Ytjikokmhknnnoaa
