import Derived.Test.YtjikokmhknnnoaaKinds
import Derived.Test.YtjikokmhknnnoaaBB
import Derived.Test.YtjikokmhknnnoaaKinds2
import Derived.Test.YtjikokmhknnnoaaBA
/- Valid expressions: the walk of the reference. -/
namespace Go.Proofs.Ytjikokmhknnnoaa
open Go.RowKit Go.Shelf

theorem Rep.row {w : World} {B : Nat} {k n : Int} {s : ByteArray} {c : List Tr} {A : Option Addr} {cap len : Nat} (hr : Rep w B (.mk k n s c) (nodeV k n s A len cap)) : len = c.length ∧ Fits k n s c.length cap ∧ RepRow w B c A 0 := by
 simp only [Rep] at hr
 obtain ⟨A', cap', he, hf, hrow⟩ := hr
 simp only [nodeV, Value.agg.injEq, Array.mk.injEq, List.cons.injEq, Value.slice.injEq, true_and, and_true] at he
 obtain ⟨rfl, hl, rfl⟩ := he
 exact ⟨hl, hf, hrow⟩

end Go.Proofs.Ytjikokmhknnnoaa

/- Valid statements and blocks: the walks of the reference. -/
namespace Go.Proofs.Ytjikokmhknnnoaa
open Go.RowKit Go.Shelf
end Go.Proofs.Ytjikokmhknnnoaa

/- Valid statements and blocks: the walks of the reference, the statement itself. -/
namespace Go.Proofs.Ytjikokmhknnnoaa
open Go.RowKit Go.Shelf
end Go.Proofs.Ytjikokmhknnnoaa

/- Valid statements: the walk of the reference, its loop. -/
namespace Go.Proofs.Ytjikokmhknnnoaa
open Go.RowKit Go.Shelf
end Go.Proofs.Ytjikokmhknnnoaa

/- Valid statements and blocks of the reference, together. -/
namespace Go.Proofs.Ytjikokmhknnnoaa
open Go.RowKit Go.Shelf
end Go.Proofs.Ytjikokmhknnnoaa

/- count, Big, Size, Depth. -/
namespace Go.Proofs.Ytjikokmhknnnoaa
open Go.RowKit Go.Shelf

mutual
def cnt : Tr → Nat → Int
 | .mk _ _ _ c, d => if d = 0 then -1 else cntL c (d - 1) 1
def cntL : List Tr → Nat → Int → Int
 | [], _, s => s
 | t :: r, d, s => if cnt t d < 0 ∨ 1000 < s then -1 else cntL r d (s + cnt t d)
end

def bigB (t : Tr) : Bool := decide (cnt t 100 < 0) || decide (400 < cnt t 100)
set_option maxHeartbeats 400000 in
theorem depth_any (t : Tr) : ∀ (v : Value) (w : World), Rep w w.heap.size t v → t.depth ≤ 4611686018427387904 →
  Calls Try.prog 36 #[v] w fun e w' => e = .returned (.int .i64 t.depth) ∧ Below w.heap.size w w' := by
 induction t using Tr.ind with
 | h k n s c ih =>
  intro v w hr hsz
  simp only [Rep] at hr
  obtain ⟨A, cap, rfl, hf, hrow⟩ := hr
  have hl := hf.l1
  have hc := hf.c1
  have HR := Lib.hid hrow
  have IH := Lib.hid ih
  clear hrow ih
  unfold nodeV
  simp only [Tr.depth] at hsz
  go_enter Try.func36, Try.ntmps36
  go_wp2_with fail
  go_loopw [3, 9] (fun s3 s9 wr => ∃ i : Nat, i ≤ c.length ∧ s9 = .int .i64 i ∧ s3 = .int .i64 ((Tr.depths (c.take i) : Nat) : Int) ∧ Below (w.heap.size + 1) (w.alloc (.cells #[.int .u8 k, .int .i64 n, .string s, .slice A c.length cap] 28)) wr)
   (fun _ s9 _ => c.length - (intOf s9).toNat)
  case atStart => exact ⟨0, Nat.zero_le _, rfl, by simp [Tr.depths], Below.refl _ _⟩
  case round =>
   obtain ⟨i, hi, rfl, rfl, hb⟩ := hrel
   have hbb : Below w.heap.size w wr := ((Below.refl _ _).alloc (Nat.le_refl _) _).trans (hb.mono (by omega))
   obtain ⟨x0, x1, x2, x3⟩ := box_at (by simpa using hb)
   have hle := Tr.depths_take_le c i
   by_cases hlt : i < c.length
   ·obtain ⟨b, off, A', cap', rfl, hbB, h0, h1, h2, h3, hk⟩ := (HR.out.below hbb).kid i hlt
    have htk := Tr.depths_take c i hlt
    have hmem : c[i] ∈ c := List.getElem_mem hlt
    have hsz1 := Tr.depth_le_of_mem hmem
    have HTK := Lib.hid htk
    clear htk
    have hws := hbb.size
    go_wp2_with fail
    refine (IH.out _ hmem _ _ (hk.alloc hws _) (by omega)).mono ?_
    rintro e w1 ⟨rfl, hb1⟩
    have hb2 := (hb.alloc (by have := hb.size; simp at this; omega) _).trans (hb1.mono (by have := hb.size; simp at this ⊢; omega))
    clear hb1
    go_wp2_with fail
    go_roundw
    case rel => exact ⟨i + 1, by omega, by go_num, by rw [HTK.out]; first | go_num | (congr 1; omega) | (simp; omega), hb2⟩
    case measure => simp [intOf]; omega
   ·go_wp2_with fail
    go_ret
    obtain rfl : i = c.length := by omega
    exact ⟨by simp [Tr.depth], hbb⟩

end Go.Proofs.Ytjikokmhknnnoaa
