/- ScopeUnused: the cells of faults, the first of them moved back. -/
import Derived.Test.YtjikokmhknnnoaaW6
namespace Go.Proofs.Ytjikokmhknnnoaa
open Go.RowKit

/-- the cells of faults -/
def cF (l : List Ft) : List D := (l.map dFt).flatMap D.cells
theorem cF_eq (l : List Ft) : (l.flatMap fun f => (dFt f).cells) = cF l := by unfold cF; rw [List.flatMap_map]
theorem cF_cons (v : Ft) (l : List Ft) : cF (v :: l) = .int .i64 v.proc :: sl 1 (v.path.map dI) :: .int .i64 v.err :: .str v.name :: cF l := rfl
theorem cF_len : ∀ l : List Ft, (cF l).length = l.length * 4
  | [] => rfl
  | v :: l => by rw [cF_cons]; simp only [List.length_cons, cF_len l]; omega
theorem cF_at : ∀ (l : List Ft) (j : Nat) (h : j < l.length), (cF l).drop (j * 4) = .int .i64 l[j].proc :: sl 1 (l[j].path.map dI) :: .int .i64 l[j].err :: .str l[j].name :: (cF l).drop (j * 4 + 4)
  | [], _, h => absurd h (Nat.not_lt_zero _)
  | v :: l, 0, _ => rfl
  | v :: l, j + 1, h => by
    have ih := cF_at l j (by simpa using h)
    rw [cF_cons, show (j + 1) * 4 = j * 4 + 4 from by omega, show j * 4 + 4 + 4 = (j * 4 + 4) + 4 from rfl]
    simp only [List.drop_succ_cons, List.getElem_cons_succ, ih]
theorem cF_get {l : List Ft} {j : Nat} (h : j < l.length) : ((cF l).drop (j * 4)).take 1 = [.int .i64 l[j].proc] := by rw [cF_at l j h]; rfl
theorem cF_set : ∀ (l : List Ft) (j : Nat) (h : j < l.length) (x : Int), (cF l).take (j * 4) ++ .int .i64 x :: (cF l).drop (j * 4 + 1) = cF (l.set j ⟨x, l[j].path, l[j].err, l[j].name⟩)
  | [], _, h, _ => absurd h (Nat.not_lt_zero _)
  | v :: l, 0, _, x => rfl
  | v :: l, j + 1, h, x => by
    have ih := cF_set l j (by simpa using h) x
    rw [cF_cons, show (j + 1) * 4 = j * 4 + 4 from by omega, show j * 4 + 4 + 1 = (j * 4 + 1) + 4 from by omega]
    simp only [List.take_succ_cons, List.drop_succ_cons, List.getElem_cons_succ, List.set_cons_succ, cF_cons, List.cons_append, ih]
theorem cF_av (i : Nat) : ∀ l : List Ft, D.avoids i (cF l) = true
  | [] => rfl
  | v :: l => by
    have h : (sl 1 (v.path.map dI)).avoid i = true := by
      unfold sl
      simp only [D.avoid]
      have : ∀ c : List Int, D.avoids i (c.map dI) = true := by
        intro c
        induction c with
        | nil => rfl
        | cons x r ih => simp only [List.map_cons, D.avoids, ih, Bool.and_true]; rfl
      exact this _
    rw [cF_cons]; simp only [D.avoids, D.avoid, cF_av i l, h, Bool.and_true]
/-- the first j of them moved back -/
def bkK (N : Int) (vs : List Ft) (j : Nat) : List Ft := (vs.take j).map (backF N) ++ vs.drop j
theorem bkK_len (N : Int) (vs : List Ft) (j : Nat) : (bkK N vs j).length = vs.length := by
  unfold bkK; rw [List.length_append, List.length_map, List.length_take, List.length_drop]; omega
theorem bkK_at {N : Int} {vs : List Ft} {j : Nat} (h : j < vs.length) (h' : j < (bkK N vs j).length) : (bkK N vs j)[j] = vs[j] := by
  have : (bkK N vs j)[j]? = some vs[j] := by
    unfold bkK
    rw [List.getElem?_append_right (by simp; omega), List.length_map, List.length_take, Nat.min_eq_left (Nat.le_of_lt h), Nat.sub_self, List.getElem?_drop, Nat.add_zero, List.getElem?_eq_getElem h]
  exact (List.getElem?_eq_some_iff.1 this).2
theorem bkK_step {N : Int} {vs : List Ft} {j : Nat} (h : j < vs.length) : (bkK N vs j).set j (backF N vs[j]) = bkK N vs (j + 1) := by
  unfold bkK
  rw [List.set_append_right _ _ (by simp; omega), List.drop_eq_getElem_cons h, List.take_succ_eq_append_getElem h, List.map_append]
  simp [Nat.min_eq_left (Nat.le_of_lt h)]
  rw [List.drop_eq_getElem_cons h, List.set_cons_zero]
theorem bkK_all (N : Int) (vs : List Ft) : bkK N vs vs.length = vs.map (backF N) := by unfold bkK; simp
theorem backF_no {N : Int} {f : Ft} (h : (f.proc == N + 1) = false) : backF N f = f := by unfold backF; rw [if_neg (by simpa using h)]
theorem backF_yes {N : Int} {f : Ft} (h : (f.proc == N + 1) = true) : backF N f = ⟨f.proc - 1, f.path, f.err, f.name⟩ := by
  have : f.proc = N + 1 := by simpa using h
  unfold backF; rw [if_pos this, this, Int.add_sub_cancel]
/-- a step of the loop that leaves the fault -/
theorem bkK_no {N : Int} {vs : List Ft} {j : Nat} (h : j < vs.length) (hn : (vs[j].proc == N + 1) = false) : bkK N vs (j + 1) = bkK N vs j := by
  have hk : j < (bkK N vs j).length := by rw [bkK_len]; exact h
  rw [← bkK_step h, backF_no hn, ← bkK_at h hk, List.set_getElem_self]
/-- slots that a freezing of box i can turn -/
def BF (i N : Nat) (d : D) : Prop := d.avoid i = true ∨ d = .bsl i 0 4 N ∨ ∃ k, k < N ∧ d = .bsl i (k * 4) 0 0
theorem dFt_len (l : List Ft) : ∀ d ∈ l.map dFt, d.cells.length = 4 := fun d hd => by obtain ⟨x, _, rfl⟩ := List.mem_map.1 hd; rfl
theorem BF.fz {i : Nat} {l : List Ft} {d : D} (h : BF i l.length d) : ∃ d', Fz i (cF l) d d' := by
  rcases h with h | rfl | ⟨k, hk, rfl⟩
  · exact ⟨d, .keep d h⟩
  · exact ⟨_, Fz.row (l := l.map dFt) rfl (by simp) (by omega) (dFt_len l)⟩
  · exact ⟨_, Fz.cell (l := l.map dFt) (k := k) rfl rfl (by simpa using hk) (dFt_len l)⟩
inductive BFL (i N : Nat) : List D → Prop
  | nil : BFL i N []
  | cons {d : D} {l : List D} (h : BF i N d) (t : BFL i N l) : BFL i N (d :: l)
theorem BFL.at {i N : Nat} {l : List D} (h : BFL i N l) : ∀ t : Nat, BF i N (nthD l t) := by
  induction h with
  | nil => intro t; exact .inl rfl
  | cons h _ ih =>
    intro t
    cases t with
    | zero => exact h
    | succ t => exact ih t
theorem BFL.slot {i N : Nat} {fr : List D} {bx : List (List D)} {nx : Nat} {lv : List Nat} (h : BFL i N fr) : ∀ t, BF i N (slotOf ⟨fr, bx, nx, lv⟩ t) := h.at
/-- numbers of procedures are small -/
theorem checkF_proc {p : Pg} (hv : validB p = true) : ∀ f ∈ checkF p, -1 ≤ f.proc ∧ f.proc ≤ 64 := by
  simp only [validB, Bool.and_eq_true, Bool.not_eq_true', decide_eq_false_iff_not] at hv
  have hl : ¬ (p.procs.length : Int) > 64 := hv.1.1.1.2
  intro f hf
  unfold checkF at hf
  rw [List.mem_append, List.mem_append] at hf
  rcases hf with h | h | h
  · have := vrF_proc _ _ h; omega
  · have := procsF_proc p p.procs 0 f h; omega
  · have := vis_proc p _ _ _ _ h; omega
theorem wrap_small {n : Int} (h1 : -1 ≤ n) (h2 : n ≤ 64) : IntKind.i64.wrap n = n := by
  simp only [IntKind.wrap, IntKind.bits, IntKind.signed]
  simp <;> (try split) <;> omega

end Go.Proofs.Ytjikokmhknnnoaa
