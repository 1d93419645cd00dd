/- Valid expressions, places, statements, blocks: the walks of package ast. -/
import Derived.Test.YtmglacjcefajlaaPred
namespace Go.Proofs.Ytmglacjcefajlaa
open Go.RowKit Go.Shelf

def lenB (c : List Tr) (m : Int) : Bool := (c.length : Int) == m

mutual
def exprB : Tr → Bool
 | .mk k n s c =>
  if k = 1 then decide (0 ≤ n) && emptyB s && lenB c 0
  else if k = 2 ∨ k = 4 ∨ k = 5 then namedB n s && lenB c 0
  else if k = 3 then namedB n s && lenB c 1 && exprsB c
  else if k = 6 ∨ k = 7 then plainB n s && lenB c 1 && exprsB c
  else if 8 ≤ k ∧ k ≤ 23 then plainB n s && lenB c 2 && exprsB c
  else false
def exprsB : List Tr → Bool
 | [] => true
 | t :: r => exprB t && exprsB r
end
theorem exprsB_all : ∀ c : List Tr, exprsB c = c.all exprB
 | [] => rfl
 | t :: r => by simp only [exprsB, List.all_cons, exprsB_all r]

def placeB (t : Tr) : Bool := (t.kind == 2 || t.kind == 3) && exprB t
def varB (t : Tr) : Bool := t.kind == 2 && exprB t

mutual
def stmtB : Tr → Bool
 | .mk k n s c =>
  if k = 40 ∨ k = 41 ∨ k = 42 ∨ k = 56 then plainB n s && catsB [1, 0] c
  else if k = 43 then plainB n s && catsB [1, 1] c
  else if k = 44 ∨ k = 45 then namedB n s && catsB [1] c
  else if k = 46 ∨ k = 47 ∨ k = 48 ∨ k = 49 then plainB n s && catsB [1] c
  else if k = 50 ∨ k = 51 then namedB n s && decide ((c.length : Int) ≤ 8) && catsB (List.replicate c.length 3) c
  else if k = 52 ∨ k = 53 then plainB n s && catsB [0, 2, 2, 0] c
  else if k = 54 then namedB n s && catsB [0, 2, 0] c
  else if k = 55 then namedB n s && catsB [2] c
  else false
def blockB : Tr → Bool
 | .mk k n s c => k == 57 && plainB n s && stmtsB c
def catsB : List Nat → List Tr → Bool
 | [], [] => true
 | x :: xs, t :: ts => (if x = 0 then exprB t else if x = 1 then placeB t else if x = 2 then blockB t else varB t) && catsB xs ts
 | [], _ :: _ => false
 | _ :: _, [] => false
def stmtsB : List Tr → Bool
 | [] => true
 | t :: r => stmtB t && stmtsB r
end
theorem stmtsB_all : ∀ c : List Tr, stmtsB c = c.all stmtB
 | [] => rfl
 | t :: r => by simp only [stmtsB, List.all_cons, stmtsB_all r]
theorem catsB_var : ∀ c : List Tr, catsB (List.replicate c.length 3) c = c.all varB
 | [] => by simp [catsB]
 | t :: r => by simp only [List.length_cons, List.replicate_succ, catsB, List.all_cons, catsB_var r]; simp

theorem zipB_one (f : Nat) (p : Tr → Bool) (c : List Tr) : zipB [(f, p)] c = (lenB c 1 && c.all p) := by
 match c with
 | [] => simp [zipB, lenB]
 | [t] => simp [zipB, lenB]
 | t :: u :: r =>
  have : lenB (t :: u :: r) 1 = false := by simp [lenB]; omega
  rw [this]; simp [zipB]
theorem zipB_two (f g : Nat) (p : Tr → Bool) (c : List Tr) : zipB [(f, p), (g, p)] c = (lenB c 2 && c.all p) := by
 match c with
 | [] => simp [zipB, lenB]
 | [t] => simp [zipB, lenB]
 | [t, u] => simp [zipB, lenB]
 | t :: u :: v :: r =>
  have : lenB (t :: u :: v :: r) 2 = false := by simp [lenB]; omega
  rw [this]; simp [zipB]

set_option maxHeartbeats 400000 in
theorem isExpr_1 (n : Int) (s : ByteArray) (c : List Tr) (A : Option Addr) (cap : Nat) (w : World)
  (_hr : Rep w w.heap.size (.mk 1 n s c) (nodeV 1 n s A c.length cap)) :
  Calls Try.prog 45 #[nodeV 1 n s A c.length cap] w fun e w' => e = .returned (.bool (decide (0 ≤ n) && emptyB s && lenB c 0)) ∧ Below w.heap.size w w' := by
 unfold nodeV emptyB lenB
 clear _hr
 cases hn : decide (0 ≤ n)
 ·go_enter Try.func45, Try.ntmps45
  go_wp2_with fail
  go_ret
  exact ⟨by simp, (Below.refl _ _).alloc (Nat.le_refl _) _⟩
 ·cases hs : s.toList.isEmpty
  ·go_enter Try.func45, Try.ntmps45
   go_wp2_with fail
   go_ret
   exact ⟨by simp, (Below.refl _ _).alloc (Nat.le_refl _) _⟩
  ·go_enter Try.func45, Try.ntmps45
   go_wp2_with fail
   go_ret
   exact ⟨by simp, (Below.refl _ _).alloc (Nat.le_refl _) _⟩

set_option maxHeartbeats 400000 in
theorem isExpr_2 (n : Int) (s : ByteArray) (c : List Tr) (A : Option Addr) (cap : Nat) (w : World)
  (hr : Rep w w.heap.size (.mk 2 n s c) (nodeV 2 n s A c.length cap)) :
  Calls Try.prog 45 #[nodeV 2 n s A c.length cap] w fun e w' => e = .returned (.bool (namedB n s && lenB c 0)) ∧ Below w.heap.size w w' := by
 have hN := named_any _ _ _ (hr.alloc (Nat.le_refl _) (.cells #[.int .u8 2, .int .i64 n, .string s, .slice A c.length cap] 26))
 unfold nodeV at *
 unfold lenB
 simp only [Tr.num, Tr.name] at hN
 have HN := Lib.hid hN
 clear hN hr
 cases hn : namedB n s
 ·have H := Lib.hid hn
  clear hn
  go_enter Try.func45, Try.ntmps45
  go_wp2_with fail
  refine HN.out.mono ?_
  rw [H.out]
  rintro e w1 ⟨rfl, hb1⟩
  have hb2 := ((Below.refl _ w).alloc (Nat.le_refl _) _).trans (hb1.mono (by simp))
  have hsz := hb1.size
  have hbx := fun i => (hb1.cell (p := ⟨w.heap.size, i, none⟩) (by simp)).trans (cell_of_row _ _ i _ _ _ (heap_new w _))
  clear hb1
  go_wp2_with fail
  go_ret
  exact ⟨by simp, hb2⟩
 ·have H := Lib.hid hn
  clear hn
  go_enter Try.func45, Try.ntmps45
  go_wp2_with fail
  refine HN.out.mono ?_
  rw [H.out]
  rintro e w1 ⟨rfl, hb1⟩
  have hb2 := ((Below.refl _ w).alloc (Nat.le_refl _) _).trans (hb1.mono (by simp))
  have hbx := (hb1.cell (p := ⟨w.heap.size, 3, none⟩) (by simp)).trans (cell_of_row _ _ 3 _ _ _ (heap_new w _))
  simp only [List.getElem?_toArray, List.getElem?_cons_succ, List.getElem?_cons_zero] at hbx
  clear hb1
  go_wp2_with fail
  go_ret
  exact ⟨by simp, hb2⟩

set_option maxHeartbeats 400000 in
theorem isExpr_4 (n : Int) (s : ByteArray) (c : List Tr) (A : Option Addr) (cap : Nat) (w : World)
  (hr : Rep w w.heap.size (.mk 4 n s c) (nodeV 4 n s A c.length cap)) :
  Calls Try.prog 45 #[nodeV 4 n s A c.length cap] w fun e w' => e = .returned (.bool (namedB n s && lenB c 0)) ∧ Below w.heap.size w w' := by
 have hN := named_any _ _ _ (hr.alloc (Nat.le_refl _) (.cells #[.int .u8 4, .int .i64 n, .string s, .slice A c.length cap] 26))
 unfold nodeV at *
 unfold lenB
 simp only [Tr.num, Tr.name] at hN
 have HN := Lib.hid hN
 clear hN hr
 cases hn : namedB n s
 ·have H := Lib.hid hn
  clear hn
  go_enter Try.func45, Try.ntmps45
  go_wp2_with fail
  refine HN.out.mono ?_
  rw [H.out]
  rintro e w1 ⟨rfl, hb1⟩
  have hb2 := ((Below.refl _ w).alloc (Nat.le_refl _) _).trans (hb1.mono (by simp))
  have hsz := hb1.size
  have hbx := fun i => (hb1.cell (p := ⟨w.heap.size, i, none⟩) (by simp)).trans (cell_of_row _ _ i _ _ _ (heap_new w _))
  clear hb1
  go_wp2_with fail
  go_ret
  exact ⟨by simp, hb2⟩
 ·have H := Lib.hid hn
  clear hn
  go_enter Try.func45, Try.ntmps45
  go_wp2_with fail
  refine HN.out.mono ?_
  rw [H.out]
  rintro e w1 ⟨rfl, hb1⟩
  have hb2 := ((Below.refl _ w).alloc (Nat.le_refl _) _).trans (hb1.mono (by simp))
  have hbx := (hb1.cell (p := ⟨w.heap.size, 3, none⟩) (by simp)).trans (cell_of_row _ _ 3 _ _ _ (heap_new w _))
  simp only [List.getElem?_toArray, List.getElem?_cons_succ, List.getElem?_cons_zero] at hbx
  clear hb1
  go_wp2_with fail
  go_ret
  exact ⟨by simp, hb2⟩

set_option maxHeartbeats 400000 in
theorem isExpr_5 (n : Int) (s : ByteArray) (c : List Tr) (A : Option Addr) (cap : Nat) (w : World)
  (hr : Rep w w.heap.size (.mk 5 n s c) (nodeV 5 n s A c.length cap)) :
  Calls Try.prog 45 #[nodeV 5 n s A c.length cap] w fun e w' => e = .returned (.bool (namedB n s && lenB c 0)) ∧ Below w.heap.size w w' := by
 have hN := named_any _ _ _ (hr.alloc (Nat.le_refl _) (.cells #[.int .u8 5, .int .i64 n, .string s, .slice A c.length cap] 26))
 unfold nodeV at *
 unfold lenB
 simp only [Tr.num, Tr.name] at hN
 have HN := Lib.hid hN
 clear hN hr
 cases hn : namedB n s
 ·have H := Lib.hid hn
  clear hn
  go_enter Try.func45, Try.ntmps45
  go_wp2_with fail
  refine HN.out.mono ?_
  rw [H.out]
  rintro e w1 ⟨rfl, hb1⟩
  have hb2 := ((Below.refl _ w).alloc (Nat.le_refl _) _).trans (hb1.mono (by simp))
  have hsz := hb1.size
  have hbx := fun i => (hb1.cell (p := ⟨w.heap.size, i, none⟩) (by simp)).trans (cell_of_row _ _ i _ _ _ (heap_new w _))
  clear hb1
  go_wp2_with fail
  go_ret
  exact ⟨by simp, hb2⟩
 ·have H := Lib.hid hn
  clear hn
  go_enter Try.func45, Try.ntmps45
  go_wp2_with fail
  refine HN.out.mono ?_
  rw [H.out]
  rintro e w1 ⟨rfl, hb1⟩
  have hb2 := ((Below.refl _ w).alloc (Nat.le_refl _) _).trans (hb1.mono (by simp))
  have hbx := (hb1.cell (p := ⟨w.heap.size, 3, none⟩) (by simp)).trans (cell_of_row _ _ 3 _ _ _ (heap_new w _))
  simp only [List.getElem?_toArray, List.getElem?_cons_succ, List.getElem?_cons_zero] at hbx
  clear hb1
  go_wp2_with fail
  go_ret
  exact ⟨by simp, hb2⟩

theorem kids_at (fs : List (Nat × (Tr → Bool))) (m : Nat) (hm : fs.length = m) (hm1 : m ≤ 9) (t : Tr) (hfs : ∀ p, p ∈ fs → ∀ u, u ∈ t.kids → Tests p.1 p.2 u) (eg : ∀ p, p ∈ fs → Enters Try.prog p.1)
  (v : Value) (w : World) (hr : Rep w w.heap.size t v) (cs : Array Value) (ty : Nat) (hcs : cs = (fs.map fun p => Value.func (.func p.1) #[] #[]).toArray) (cap : Nat) :
  Calls Try.prog 43 #[v, .slice (some ⟨w.heap.size, 0, none⟩) m cap] (w.alloc (.cells cs ty)) fun e w' => e = .returned (.bool (zipB fs t.kids)) ∧ Below w.heap.size w w' := by
 subst hm
 subst hcs
 refine (kids_any fs t (fun j h h' => hfs _ (List.getElem_mem h) _ (List.getElem_mem h')) (fun j h => eg _ (List.getElem_mem h)) v _ (hr.alloc (Nat.le_refl _) _) w.heap.size cap (by omega) (by simp) (fun j h => ?_)).mono ?_
 ·rw [cell_of_row _ _ _ _ _ _ (heap_new w _), List.getElem?_toArray, List.getElem?_map, List.getElem?_eq_getElem h]
  rfl
 ·rintro e w' ⟨rfl, hb⟩
  exact ⟨rfl, ((Below.refl _ w).alloc (Nat.le_refl _) _).trans (hb.mono (by simp))⟩

/-- a box that was laid at block b reads as it did -/
theorem box_at {w w1 : World} {c0 c1 c2 c3 : Value} {ty : Nat} (hb : Below (w.alloc (.cells #[c0, c1, c2, c3] ty)).heap.size (w.alloc (.cells #[c0, c1, c2, c3] ty)) w1) :
  w1.cell? ⟨w.heap.size, 0, none⟩ = some c0 ∧ w1.cell? ⟨w.heap.size, 1, none⟩ = some c1 ∧ w1.cell? ⟨w.heap.size, 2, none⟩ = some c2 ∧ w1.cell? ⟨w.heap.size, 3, none⟩ = some c3 := by
 refine ⟨?_, ?_, ?_, ?_⟩
 all_goals exact (hb.cell (by simp)).trans (cell_of_row _ _ _ _ _ _ (heap_new w _))

theorem en_expr : Enters Try.prog 45 := enters_of Try.func45 (by kernel_rfl) rfl
theorem en_place : Enters Try.prog 44 := enters_of Try.func44 (by kernel_rfl) rfl
theorem en_stmt : Enters Try.prog 24 := enters_of Try.func24 (by kernel_rfl) rfl
theorem en_block : Enters Try.prog 49 := enters_of Try.func49 (by kernel_rfl) rfl
theorem en_var : Enters Try.prog 48 := enters_of Try.func48 (by kernel_rfl) rfl

set_option maxHeartbeats 400000 in
theorem isExpr_3 (n : Int) (s : ByteArray) (c : List Tr) (A : Option Addr) (cap : Nat) (w : World)
  (ih0 : ∀ t, t ∈ c → Tests 45 exprB t)
  (hr : Rep w w.heap.size (.mk 3 n s c) (nodeV 3 n s A c.length cap)) :
  Calls Try.prog 45 #[nodeV 3 n s A c.length cap] w fun e w' => e = .returned (.bool (namedB n s && zipB [(45, exprB)] c)) ∧ Below w.heap.size w w' := by
 have hN := named_any _ _ _ (hr.alloc (Nat.le_refl _) (.cells #[.int .u8 3, .int .i64 n, .string s, .slice A c.length cap] 26))
 unfold nodeV at hN ⊢
 simp only [Tr.num, Tr.name] at hN
 have HN := Lib.hid hN
 have HR := Lib.hid hr
 clear hN hr
 cases hn : namedB n s
 ·have H := Lib.hid hn
  clear hn
  go_enter Try.func45, Try.ntmps45
  go_wp2_with fail
  refine HN.out.mono ?_
  rw [H.out]
  rintro e w1 ⟨rfl, hb1⟩
  have hb2 := ((Below.refl _ w).alloc (Nat.le_refl _) _).trans (hb1.mono (by simp))
  clear hb1
  go_wp2_with fail
  go_ret
  exact ⟨by simp, hb2⟩
 ·have H := Lib.hid hn
  clear hn
  have hfs : ∀ p, p ∈ [(45, exprB)] → ∀ u, u ∈ c → Tests p.1 p.2 u := by
   intro p hp
   simp only [List.mem_cons, List.not_mem_nil, or_false] at hp
   rcases hp with rfl
   ·exact ih0
  have heg : ∀ p, p ∈ [(45, exprB)] → Enters Try.prog p.1 := by
   intro p hp
   simp only [List.mem_cons, List.not_mem_nil, or_false] at hp
   rcases hp with rfl
   ·exact en_expr
  have HFS := Lib.hid hfs
  have HEG := Lib.hid heg
  clear hfs heg
  go_enter Try.func45, Try.ntmps45
  go_wp2_with fail
  refine HN.out.mono ?_
  rw [H.out]
  rintro e w1 ⟨rfl, hb1⟩
  have hb2 := ((Below.refl _ w).alloc (Nat.le_refl _) _).trans (hb1.mono (by simp))
  have hr1 := HR.out.at_ (Nat.le_refl _) hb2
  have HR1 := Lib.hid hr1
  obtain ⟨x0, x1, x2, x3⟩ := box_at hb1
  clear hb1 hr1
  go_wp2_with fail
  refine (kids_at [(45, exprB)] 1 rfl (by omega) (.mk 3 n s c) HFS.out HEG.out _ w1 HR1.out _ _ rfl _).mono ?_
  rintro e w2 ⟨rfl, hb3⟩
  have hb4 := hb2.trans (hb3.mono hb2.size)
  clear hb3
  go_wp2_with fail
  go_ret
  exact ⟨by simp [Tr.kids], hb4⟩

set_option maxHeartbeats 400000 in
theorem isExpr_6 (n : Int) (s : ByteArray) (c : List Tr) (A : Option Addr) (cap : Nat) (w : World)
  (ih0 : ∀ t, t ∈ c → Tests 45 exprB t)
  (hr : Rep w w.heap.size (.mk 6 n s c) (nodeV 6 n s A c.length cap)) :
  Calls Try.prog 45 #[nodeV 6 n s A c.length cap] w fun e w' => e = .returned (.bool (plainB n s && zipB [(45, exprB)] c)) ∧ Below w.heap.size w w' := by
 have hN := plain_any _ _ _ (hr.alloc (Nat.le_refl _) (.cells #[.int .u8 6, .int .i64 n, .string s, .slice A c.length cap] 26))
 unfold nodeV at hN ⊢
 simp only [Tr.num, Tr.name] at hN
 have HN := Lib.hid hN
 have HR := Lib.hid hr
 clear hN hr
 cases hn : plainB n s
 ·have H := Lib.hid hn
  clear hn
  go_enter Try.func45, Try.ntmps45
  go_wp2_with fail
  refine HN.out.mono ?_
  rw [H.out]
  rintro e w1 ⟨rfl, hb1⟩
  have hb2 := ((Below.refl _ w).alloc (Nat.le_refl _) _).trans (hb1.mono (by simp))
  clear hb1
  go_wp2_with fail
  go_ret
  exact ⟨by simp, hb2⟩
 ·have H := Lib.hid hn
  clear hn
  have hfs : ∀ p, p ∈ [(45, exprB)] → ∀ u, u ∈ c → Tests p.1 p.2 u := by
   intro p hp
   simp only [List.mem_cons, List.not_mem_nil, or_false] at hp
   rcases hp with rfl
   ·exact ih0
  have heg : ∀ p, p ∈ [(45, exprB)] → Enters Try.prog p.1 := by
   intro p hp
   simp only [List.mem_cons, List.not_mem_nil, or_false] at hp
   rcases hp with rfl
   ·exact en_expr
  have HFS := Lib.hid hfs
  have HEG := Lib.hid heg
  clear hfs heg
  go_enter Try.func45, Try.ntmps45
  go_wp2_with fail
  refine HN.out.mono ?_
  rw [H.out]
  rintro e w1 ⟨rfl, hb1⟩
  have hb2 := ((Below.refl _ w).alloc (Nat.le_refl _) _).trans (hb1.mono (by simp))
  have hr1 := HR.out.at_ (Nat.le_refl _) hb2
  have HR1 := Lib.hid hr1
  obtain ⟨x0, x1, x2, x3⟩ := box_at hb1
  clear hb1 hr1
  go_wp2_with fail
  refine (kids_at [(45, exprB)] 1 rfl (by omega) (.mk 6 n s c) HFS.out HEG.out _ w1 HR1.out _ _ rfl _).mono ?_
  rintro e w2 ⟨rfl, hb3⟩
  have hb4 := hb2.trans (hb3.mono hb2.size)
  clear hb3
  go_wp2_with fail
  go_ret
  exact ⟨by simp [Tr.kids], hb4⟩

set_option maxHeartbeats 400000 in
theorem isExpr_7 (n : Int) (s : ByteArray) (c : List Tr) (A : Option Addr) (cap : Nat) (w : World)
  (ih0 : ∀ t, t ∈ c → Tests 45 exprB t)
  (hr : Rep w w.heap.size (.mk 7 n s c) (nodeV 7 n s A c.length cap)) :
  Calls Try.prog 45 #[nodeV 7 n s A c.length cap] w fun e w' => e = .returned (.bool (plainB n s && zipB [(45, exprB)] c)) ∧ Below w.heap.size w w' := by
 have hN := plain_any _ _ _ (hr.alloc (Nat.le_refl _) (.cells #[.int .u8 7, .int .i64 n, .string s, .slice A c.length cap] 26))
 unfold nodeV at hN ⊢
 simp only [Tr.num, Tr.name] at hN
 have HN := Lib.hid hN
 have HR := Lib.hid hr
 clear hN hr
 cases hn : plainB n s
 ·have H := Lib.hid hn
  clear hn
  go_enter Try.func45, Try.ntmps45
  go_wp2_with fail
  refine HN.out.mono ?_
  rw [H.out]
  rintro e w1 ⟨rfl, hb1⟩
  have hb2 := ((Below.refl _ w).alloc (Nat.le_refl _) _).trans (hb1.mono (by simp))
  clear hb1
  go_wp2_with fail
  go_ret
  exact ⟨by simp, hb2⟩
 ·have H := Lib.hid hn
  clear hn
  have hfs : ∀ p, p ∈ [(45, exprB)] → ∀ u, u ∈ c → Tests p.1 p.2 u := by
   intro p hp
   simp only [List.mem_cons, List.not_mem_nil, or_false] at hp
   rcases hp with rfl
   ·exact ih0
  have heg : ∀ p, p ∈ [(45, exprB)] → Enters Try.prog p.1 := by
   intro p hp
   simp only [List.mem_cons, List.not_mem_nil, or_false] at hp
   rcases hp with rfl
   ·exact en_expr
  have HFS := Lib.hid hfs
  have HEG := Lib.hid heg
  clear hfs heg
  go_enter Try.func45, Try.ntmps45
  go_wp2_with fail
  refine HN.out.mono ?_
  rw [H.out]
  rintro e w1 ⟨rfl, hb1⟩
  have hb2 := ((Below.refl _ w).alloc (Nat.le_refl _) _).trans (hb1.mono (by simp))
  have hr1 := HR.out.at_ (Nat.le_refl _) hb2
  have HR1 := Lib.hid hr1
  obtain ⟨x0, x1, x2, x3⟩ := box_at hb1
  clear hb1 hr1
  go_wp2_with fail
  refine (kids_at [(45, exprB)] 1 rfl (by omega) (.mk 7 n s c) HFS.out HEG.out _ w1 HR1.out _ _ rfl _).mono ?_
  rintro e w2 ⟨rfl, hb3⟩
  have hb4 := hb2.trans (hb3.mono hb2.size)
  clear hb3
  go_wp2_with fail
  go_ret
  exact ⟨by simp [Tr.kids], hb4⟩

set_option maxHeartbeats 400000 in
theorem isExpr_8 (k : Int) (n : Int) (s : ByteArray) (c : List Tr) (A : Option Addr) (cap : Nat) (w : World) (h8 : 8 ≤ k) (h23 : k ≤ 23) (e1 : (k == 1) = false) (e2 : (k == 2) = false) (e3 : (k == 3) = false) (e4 : (k == 4) = false) (e5 : (k == 5) = false) (e6 : (k == 6) = false) (e7 : (k == 7) = false)
  (ih0 : ∀ t, t ∈ c → Tests 45 exprB t)
  (hr : Rep w w.heap.size (.mk k n s c) (nodeV k n s A c.length cap)) :
  Calls Try.prog 45 #[nodeV k n s A c.length cap] w fun e w' => e = .returned (.bool (plainB n s && zipB [(45, exprB), (45, exprB)] c)) ∧ Below w.heap.size w w' := by
 have hN := plain_any _ _ _ (hr.alloc (Nat.le_refl _) (.cells #[.int .u8 k, .int .i64 n, .string s, .slice A c.length cap] 26))
 unfold nodeV at hN ⊢
 simp only [Tr.num, Tr.name] at hN
 have HN := Lib.hid hN
 have HR := Lib.hid hr
 clear hN hr
 cases hn : plainB n s
 ·have H := Lib.hid hn
  clear hn
  go_enter Try.func45, Try.ntmps45
  go_wp2_with fail
  refine HN.out.mono ?_
  rw [H.out]
  rintro e w1 ⟨rfl, hb1⟩
  have hb2 := ((Below.refl _ w).alloc (Nat.le_refl _) _).trans (hb1.mono (by simp))
  clear hb1
  go_wp2_with fail
  go_ret
  exact ⟨by simp, hb2⟩
 ·have H := Lib.hid hn
  clear hn
  have hfs : ∀ p, p ∈ [(45, exprB), (45, exprB)] → ∀ u, u ∈ c → Tests p.1 p.2 u := by
   intro p hp
   simp only [List.mem_cons, List.not_mem_nil, or_false] at hp
   rcases hp with rfl | rfl
   ·exact ih0
   ·exact ih0
  have heg : ∀ p, p ∈ [(45, exprB), (45, exprB)] → Enters Try.prog p.1 := by
   intro p hp
   simp only [List.mem_cons, List.not_mem_nil, or_false] at hp
   rcases hp with rfl | rfl
   ·exact en_expr
   ·exact en_expr
  have HFS := Lib.hid hfs
  have HEG := Lib.hid heg
  clear hfs heg
  go_enter Try.func45, Try.ntmps45
  go_wp2_with fail
  refine HN.out.mono ?_
  rw [H.out]
  rintro e w1 ⟨rfl, hb1⟩
  have hb2 := ((Below.refl _ w).alloc (Nat.le_refl _) _).trans (hb1.mono (by simp))
  have hr1 := HR.out.at_ (Nat.le_refl _) hb2
  have HR1 := Lib.hid hr1
  obtain ⟨x0, x1, x2, x3⟩ := box_at hb1
  clear hb1 hr1
  go_wp2_with fail
  refine (kids_at [(45, exprB), (45, exprB)] 2 rfl (by omega) (.mk k n s c) HFS.out HEG.out _ w1 HR1.out _ _ rfl _).mono ?_
  rintro e w2 ⟨rfl, hb3⟩
  have hb4 := hb2.trans (hb3.mono hb2.size)
  clear hb3
  go_wp2_with fail
  go_ret
  exact ⟨by simp [Tr.kids], hb4⟩

end Go.Proofs.Ytmglacjcefajlaa
