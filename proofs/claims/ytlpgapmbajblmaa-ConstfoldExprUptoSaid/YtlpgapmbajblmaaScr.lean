/- The law's scribble: what it turns, and that it returns. -/
import Derived.Test.YtlpgapmbajblmaaCpT
import Derived.Test.YtlpgapmbajblmaaSer2
namespace Go.Proofs.Ytlpgapmbajblmaa
open Go.RowKit Go.Shelf

/-- what a cell may turn into: a number into a number, a string into one that is longer by m at most -/
def LikeV (m : Nat) (u u' : Value) : Prop := u' = u ∨ (∃ n n', u = .int .i64 n ∧ u' = .int .i64 n') ∨ (∃ s s', u = .string s ∧ u' = .string s' ∧ s'.size ≤ s.size + m)
theorem LikeV.trans {m m' : Nat} {a b c : Value} (h : LikeV m a b) (k : LikeV m' b c) : LikeV (m + m') a c := by
  rcases h with rfl | ⟨n, n', rfl, rfl⟩ | ⟨s, s', rfl, rfl, hs⟩
  · rcases k with rfl | k | ⟨s, s', rfl, rfl, hs⟩
    · exact .inl rfl
    · exact .inr (.inl k)
    · exact .inr (.inr ⟨_, _, rfl, rfl, by omega⟩)
  · rcases k with rfl | ⟨p, p', hp, rfl⟩ | ⟨s, s', hp, _⟩
    · exact .inr (.inl ⟨_, _, rfl, rfl⟩)
    · exact .inr (.inl ⟨_, _, rfl, rfl⟩)
    · cases hp
  · rcases k with rfl | ⟨p, p', hp, rfl⟩ | ⟨t, t', hp, rfl, ht⟩
    · exact .inr (.inr ⟨_, _, rfl, rfl, by omega⟩)
    · cases hp
    · cases hp; exact .inr (.inr ⟨_, _, rfl, rfl, by omega⟩)
/-- only cells of the blocks X have turned, and none but as said -/
structure Scr (X : Nat → Prop) (m : Nat) (w w' : World) : Prop where
  os : w'.os = w.os
  tape : w'.tape = w.tape
  output : w'.output = w.output
  size : w'.heap.size = w.heap.size
  other : ∀ b : Nat, ¬ X b → w'.heap[b]? = w.heap[b]?
  row : ∀ (b : Nat) (arr : Array Value) (ty : TypeId), w.heap[b]? = some (.cells arr ty (0, 0)) → ∃ arr' : Array Value, w'.heap[b]? = some (.cells arr' ty (0, 0))
  cell : ∀ (b o : Nat) (u : Value), w.cell? ⟨b, o, none⟩ = some u → ∃ u', w'.cell? ⟨b, o, none⟩ = some u' ∧ LikeV m u u'
theorem Scr.refl (X : Nat → Prop) (w : World) : Scr X 0 w w := ⟨rfl, rfl, rfl, rfl, fun _ _ => rfl, fun _b arr _ty h => ⟨arr, h⟩, fun _b _o u h => ⟨u, h, .inl rfl⟩⟩
theorem Scr.trans {X : Nat → Prop} {m m' : Nat} {a b c : World} (h : Scr X m a b) (k : Scr X m' b c) : Scr X (m + m') a c :=
  ⟨k.os.trans h.os, k.tape.trans h.tape, k.output.trans h.output, k.size.trans h.size, fun i hi => (k.other i hi).trans (h.other i hi), fun i arr ty q => let ⟨a1, h1⟩ := h.row i arr ty q; k.row i a1 ty h1, fun i o u q => by
    obtain ⟨u1, h1, l1⟩ := h.cell i o u q
    obtain ⟨u2, h2, l2⟩ := k.cell i o u1 h1
    exact ⟨u2, h2, l1.trans l2⟩⟩
theorem Scr.drew {X : Nat → Prop} {m : Nat} {w w' : World} (h : Scr X m w w') : Scr X m w w'.drew := ⟨h.os, h.tape, h.output, h.size, h.other, h.row, h.cell⟩
theorem Scr.cells {X : Nat → Prop} {m : Nat} {w w' : World} (h : Scr X m w w') {b : Nat} (hc : Cells w b) : Cells w' b := by
  obtain ⟨arr, ty, q⟩ := hc
  obtain ⟨arr', q'⟩ := h.row b arr ty q
  exact ⟨arr', ty, q'⟩
theorem setCell_at {w : World} {b o : Nat} {u v : Value} (h : w.cell? ⟨b, o, none⟩ = some u) : (w.setCell ⟨b, o, none⟩ v).cell? ⟨b, o, none⟩ = some v := by
  unfold World.cell? World.setCell at *
  simp only [Array.getElem?_modify, if_true] at h ⊢
  cases hb : w.heap[b]? with
  | none => rw [hb] at h; cases h
  | some x =>
    rw [hb] at h
    cases x <;> simp at h ⊢
    rw [Array.getElem?_setIfInBounds]
    simp only [if_true]
    rw [if_pos (Array.getElem?_eq_some_iff.1 h).1]
theorem setCell_not {w : World} {b o c p : Nat} {v : Value} (h : b ≠ c ∨ o ≠ p) : (w.setCell ⟨b, o, none⟩ v).cell? ⟨c, p, none⟩ = w.cell? ⟨c, p, none⟩ := by
  unfold World.cell? World.setCell
  simp only [Array.getElem?_modify]
  by_cases e : b = c
  · subst e
    have hp : o ≠ p := h.resolve_left (by simp)
    simp only [if_true]
    cases w.heap[b]? with
    | none => rfl
    | some x =>
      cases x <;> simp
      rw [Array.getElem?_setIfInBounds, if_neg hp]
  · simp only [if_neg e]
theorem Scr.set {X : Nat → Prop} {m : Nat} {w w' : World} (h : Scr X m w w') {b o : Nat} {u v : Value} {k : Nat} (hX : X b) (hu : w'.cell? ⟨b, o, none⟩ = some u) (hl : LikeV k u v) : Scr X (m + k) w (w'.setCell ⟨b, o, none⟩ v) :=
  h.trans ⟨rfl, rfl, rfl, by simp [World.setCell], fun c hc => heap_setCell_other _ _ _ _ (fun e => hc (by have e : c = b := e; rw [e]; exact hX)), fun c arr ty q => by
    by_cases e : c = b
    · subst e
      exact ⟨_, by simp only [World.setCell, Array.getElem?_modify, if_true, q, Option.map_some]; rfl⟩
    · exact ⟨arr, (heap_setCell_other _ _ _ _ e).trans q⟩, fun c p x q => by
    by_cases e : b = c ∧ o = p
    · obtain ⟨rfl, rfl⟩ := e
      rw [hu] at q; cases q
      exact ⟨v, setCell_at hu, hl⟩
    · exact ⟨x, by rw [setCell_not (by omega)]; exact q, .inl rfl⟩⟩

mutual
/-- the node at the cell off of block b is one of t's form, in the blocks X; no name is longer than M -/
def Str (w : World) (X : Nat → Prop) (M : Nat) : Tr → Nat → Nat → Prop
  | .mk _ _ _ c, b, off => X b ∧ Cells w b ∧ (∃ n, w.cell? ⟨b, off + 1, none⟩ = some (.int .i64 n)) ∧ (∃ s, w.cell? ⟨b, off + 2, none⟩ = some (.string s) ∧ s.size ≤ M) ∧
      ∃ A cap, w.cell? ⟨b, off + 3, none⟩ = some (.slice A c.length cap) ∧ c.length ≤ cap ∧ cap ≤ 9223372036854775807 ∧ StrRow w X M c A 0
def StrRow (w : World) (X : Nat → Prop) (M : Nat) : List Tr → Option Addr → Nat → Prop
  | [], _, _ => True
  | t :: r, A, i => (∃ b off, A = some ⟨b, off, none⟩ ∧ Str w X M t b (off + i * 4)) ∧ StrRow w X M r A (i + 1)
end
mutual
theorem Str.scr {w w' : World} {X : Nat → Prop} {M m : Nat} (h : Scr X m w w') : ∀ (t : Tr) {b off : Nat}, Str w X M t b off → Str w' X (M + m) t b off
  | .mk k n s c, b, off, q => by
    simp only [Str] at q ⊢
    obtain ⟨q1, q2, ⟨n', q3⟩, ⟨s', q4, q5⟩, A, cap, q6, q7, q8, q9⟩ := q
    obtain ⟨u1, e1, l1⟩ := h.cell _ _ _ q3
    obtain ⟨u2, e2, l2⟩ := h.cell _ _ _ q4
    obtain ⟨u3, e3, l3⟩ := h.cell _ _ _ q6
    refine ⟨q1, h.cells q2, ?_, ?_, A, cap, ?_, q7, q8, StrRow.scr h c q9⟩
    · rcases l1 with rfl | ⟨p, p', _, rfl⟩ | ⟨x, x', hx, _⟩
      · exact ⟨_, e1⟩
      · exact ⟨_, e1⟩
      · cases hx
    · rcases l2 with rfl | ⟨p, p', hx, _⟩ | ⟨x, x', hx, rfl, hle⟩
      · exact ⟨_, e2, by omega⟩
      · cases hx
      · cases hx; exact ⟨_, e2, by omega⟩
    · rcases l3 with rfl | ⟨p, p', hx, _⟩ | ⟨x, x', hx, _⟩
      · exact e3
      · cases hx
      · cases hx
theorem StrRow.scr {w w' : World} {X : Nat → Prop} {M m : Nat} (h : Scr X m w w') : ∀ (c : List Tr) {A : Option Addr} {i : Nat}, StrRow w X M c A i → StrRow w' X (M + m) c A i
  | [], _, _, _ => by simp [StrRow]
  | t :: r, A, i, q => by
    simp only [StrRow] at q ⊢
    obtain ⟨⟨b, off, q1, q2⟩, q3⟩ := q
    exact ⟨⟨b, off, q1, Str.scr h t q2⟩, StrRow.scr h r q3⟩
end
theorem strRow_at {w : World} {X : Nat → Prop} {M : Nat} : ∀ {c : List Tr} {A : Option Addr} {i : Nat}, StrRow w X M c A i → ∀ (j : Nat) (h : j < c.length), ∃ b off, A = some ⟨b, off, none⟩ ∧ Str w X M c[j] b (off + (i + j) * 4)
  | [], _, _, _, _, h => absurd h (Nat.not_lt_zero _)
  | t :: r, A, i, q, 0, _ => by
    simp only [StrRow] at q
    simpa using q.1
  | t :: r, A, i, q, j + 1, h => by
    simp only [StrRow] at q
    have := strRow_at q.2 j (by simpa using h)
    rw [show i + (j + 1) = i + 1 + j from by omega]
    simpa using this
mutual
/-- no name is longer than M -/
def Tr.names (M : Nat) : Tr → Prop
  | .mk _ _ s c => s.size ≤ M ∧ Tr.namesL M c
def Tr.namesL (M : Nat) : List Tr → Prop
  | [] => True
  | t :: r => Tr.names M t ∧ Tr.namesL M r
end
mutual
theorem str_of {w : World} {X : Nat → Prop} {M : Nat} (hX : ∀ b, X b → Cells w b) : ∀ (t : Tr) {b off : Nat} {c0 c1 c2 c3 : Value}, t.names M → RepP w X t (.agg #[c0, c1, c2, c3]) → X b → w.cell? ⟨b, off + 1, none⟩ = some c1 → w.cell? ⟨b, off + 2, none⟩ = some c2 → w.cell? ⟨b, off + 3, none⟩ = some c3 → Str w X M t b off
  | .mk k n s c, b, off, c0, c1, c2, c3, hn, h, hb, h1, h2, h3 => by
    simp only [RepP] at h
    simp only [Tr.names] at hn
    obtain ⟨A, cap, hv, hf, hr⟩ := h
    simp only [nodeV, Value.agg.injEq, Array.mk.injEq, List.cons.injEq, and_true] at hv
    obtain ⟨rfl, rfl, rfl, rfl⟩ := hv
    simp only [Str]
    exact ⟨hb, hX b hb, ⟨_, h1⟩, ⟨_, h2, hn.1⟩, A, cap, h3, hf.l1, hf.c1, strRow_of hX c hn.2 hr⟩
theorem strRow_of {w : World} {X : Nat → Prop} {M : Nat} (hX : ∀ b, X b → Cells w b) : ∀ (c : List Tr) {A : Option Addr} {i : Nat}, Tr.namesL M c → RowP w X c A i → StrRow w X M c A i
  | [], _, _, _, _ => by simp [StrRow]
  | t :: r, A, i, hn, h => by
    simp only [RowP] at h
    simp only [Tr.namesL] at hn
    simp only [StrRow]
    obtain ⟨⟨b, off, c0, c1, c2, c3, hA, hb, h0, h1, h2, h3, hr⟩, hs⟩ := h
    exact ⟨⟨b, off, hA, str_of hX t hn.1 hr hb h1 h2 h3⟩, strRow_of hX r hn.2 hs⟩
end

/-- what the operations of scribble's region leave -/
def scrK (b o : Nat) (w w' : World) : Prop := w'.cell? ⟨b, o, none⟩ = w.cell? ⟨b, o, none⟩
def scrG (b off i : Nat) (w w' : World) : Prop := (i ≠ 14 → scrK b (off + 1) w w') ∧ (i ≠ 17 → scrK b (off + 2) w w')
theorem scrK_refl {b o : Nat} : ∀ w, scrK b o w w := fun _ => rfl
theorem scrK_trans {b o : Nat} : ∀ x y z, scrK b o x y → scrK b o y z → scrK b o x z := fun _ _ _ h k => k.trans h
theorem scrG_refl {b off : Nat} : ∀ i w, scrG b off i w w := fun _ _ => ⟨fun _ => rfl, fun _ => rfl⟩
theorem scrG1 {b off : Nat} : ∀ j, [14].contains j = false → ∀ w w', scrG b off j w w' → scrK b (off + 1) w w' := fun j hj w w' h => h.1 (fun e => by subst e; simp at hj)
theorem scrG2 {b off : Nat} : ∀ j, [17].contains j = false → ∀ w w', scrG b off j w w' → scrK b (off + 2) w w' := fun j hj w w' h => h.2 (fun e => by subst e; simp at hj)
theorem scrK_cell {b o : Nat} {w w' : World} {v : Value} (h : scrK b o w w') (hv : w.cell? ⟨b, o, none⟩ = some v) : w'.cell? ⟨b, o, none⟩ = some v := h.trans hv
theorem scrG14 {b off : Nat} {w : World} {v : Value} : scrG b off 14 w (w.setCell ⟨b, off + 1, none⟩ v) := ⟨fun e => absurd rfl e, fun _ => setCell_not (.inr (by omega))⟩
theorem scrG17 {b off : Nat} {w : World} {v : Value} : scrG b off 17 w (w.setCell ⟨b, off + 2, none⟩ v) := ⟨fun _ => setCell_not (.inr (by omega)), fun e => absurd rfl e⟩

set_option maxRecDepth 100000 in
set_option maxHeartbeats 3000000 in
theorem scribble_any (X : Nat → Prop) (t : Tr) : ∀ (M b off : Nat) (w : World), Str w X M t b off → M + t.size ≤ 9223372036854775807 → Calls Try.prog 18 #[.pointer (some ⟨b, off, none⟩)] w fun e w' => (∃ v, e = .returned v) ∧ Scr X t.size w w' := by
  have hmo : Try.prog.follows .mixedOrders = true := by kernel_rfl
  have hfn : ∀ f, Fence.wide.fn f := fun _ => trivial
  have hdp : Fence.wide.depth.isSome = false := rfl
  induction t using Tr.ind with
  | h k0 n0 s0 c ih =>
    intro M b off w hst hM
    have hst' := hst
    simp only [Str] at hst'
    obtain ⟨hb, hcl, ⟨n, f1⟩, ⟨s, f2, hs⟩, A, cap, f3, hlc, hcm, hrow⟩ := hst'
    simp only [Tr.size] at hM ⊢
    have hsz : ¬ 9223372036854775807 < s.size + 1 := by omega
    have hfr : ∀ (w' : World), Cells w' b → ∀ o, w'.frozen? ⟨b, o, none⟩ = false := fun w' ⟨arr, ty, q⟩ o => frozen_of_row w' _ o _ _ q
    have f2w : w.drew.cell? ⟨b, off + 2, none⟩ = some (.string s) := f2
    have ffw : ∀ o, w.frozen? ⟨b, o, none⟩ = false := hfr w hcl
    have f1d : w.drew.cell? ⟨b, off + 1, none⟩ = some (.int .i64 n) := f1
    have ff1 : w.drew.frozen? ⟨b, off + 1, none⟩ = false := hfr _ hcl _
    have f2d : (w.drew.setCell ⟨b, off + 1, none⟩ (.int .i64 (IntKind.wrap .i64 (n + 1)))).cell? ⟨b, off + 2, none⟩ = some (.string s) := (setCell_not (.inr (by omega))).trans f2
    have ff2 : (w.drew.setCell ⟨b, off + 1, none⟩ (.int .i64 (IntKind.wrap .i64 (n + 1)))).frozen? ⟨b, off + 2, none⟩ = false := hfr _ (hcl.set _ _) _
    have HS : Hid (Scr X 1 w ((w.drew.setCell ⟨b, off + 1, none⟩ (.int .i64 (IntKind.wrap .i64 (n + 1)))).setCell ⟨b, off + 2, none⟩ (.string (s ++ ⟨#[113]⟩)))) := Lib.hid (by
      have := (((Scr.refl X w).drew).set (k := 0) hb f1d (.inr (.inl ⟨n, IntKind.wrap .i64 (n + 1), rfl, rfl⟩))).set (k := 1) hb f2d (.inr (.inr ⟨s, s ++ ⟨#[113]⟩, rfl, rfl, by rw [ByteArray.size_append]; exact Nat.le_refl _⟩))
      exact this)
    have HST := Lib.hid hst
    have HROW := Lib.hid hrow
    have IH := Lib.hid ih
    have HCL := Lib.hid hcl
    clear hst hrow ih hcl
    go_enter Try.func18, Try.ntmps18
    go_wp2_with fail
    refine (wpIn_wide (n := 0)).1 (Ser2.serial (scrG b off) hmo ?_)
    simp only [List.size_toArray, List.length_cons, List.length_nil, Nat.reduceAdd]
    refine Ser2.takeF scrG_refl (v := ?_) hfn (by kernel_rfl) (i := 0) rfl (by kernel_rfl) (wanted_none rfl) (fun w' => ?_) ?_
    rotate_left
    · simp [execOp, go_sem]; exact rfl
    simp only [Act.put, List.setIfInBounds_toArray, List.set_cons_succ, List.set_cons_zero]
    refine Ser2.takeF scrG_refl (v := ?_) hfn (by kernel_rfl) (i := 1) rfl (by kernel_rfl) (wanted_none rfl) (fun w' => ?_) ?_
    rotate_left
    · simp [execOp, go_sem]; exact rfl
    simp only [Act.put, List.setIfInBounds_toArray, List.set_cons_succ, List.set_cons_zero]
    refine Ser2.takeF scrG_refl (v := ?_) hfn (by kernel_rfl) (i := 2) rfl (by kernel_rfl) (wanted_none rfl) (fun w' => ?_) ?_
    rotate_left
    · simp [execOp, go_sem]; exact rfl
    simp only [Act.put, List.setIfInBounds_toArray, List.set_cons_succ, List.set_cons_zero]
    refine Ser2.takeF scrG_refl (v := ?_) hfn (by kernel_rfl) (i := 3) rfl (by kernel_rfl) (wanted_none rfl) (fun w' => ?_) ?_
    rotate_left
    · simp [execOp, go_sem]; exact rfl
    simp only [Act.put, List.setIfInBounds_toArray, List.set_cons_succ, List.set_cons_zero]
    refine Ser2.takeF scrG_refl (v := ?_) hfn (by kernel_rfl) (i := 4) rfl (by kernel_rfl) (wanted_none rfl) (fun w' => ?_) ?_
    rotate_left
    · simp [execOp, go_sem]; exact rfl
    simp only [Act.put, List.setIfInBounds_toArray, List.set_cons_succ, List.set_cons_zero]
    refine Ser2.takeL (Kp := scrK b (off + 1)) scrK_refl scrK_trans scrG_refl (hd := [14]) scrG1 (via := [[14]]) (v := ?_) hfn (by kernel_rfl) (i := 5) rfl (by kernel_rfl) (wanted_none rfl) (fun w' hbk => ?_) ?_
    rotate_left
    · simp [execOp, go_sem, scrK_cell hbk f1d]; exact rfl
    simp only [Act.put, List.setIfInBounds_toArray, List.set_cons_succ, List.set_cons_zero]
    refine Ser2.takeF scrG_refl (v := ?_) hfn (by kernel_rfl) (i := 6) rfl (by kernel_rfl) (wanted_none rfl) (fun w' => ?_) ?_
    rotate_left
    · simp [execOp, go_sem]; exact rfl
    simp only [Act.put, List.setIfInBounds_toArray, List.set_cons_succ, List.set_cons_zero]
    refine Ser2.takeF scrG_refl (v := ?_) hfn (by kernel_rfl) (i := 7) rfl (by kernel_rfl) (wanted_none rfl) (fun w' => ?_) ?_
    rotate_left
    · simp [execOp, go_sem]; exact rfl
    simp only [Act.put, List.setIfInBounds_toArray, List.set_cons_succ, List.set_cons_zero]
    refine Ser2.takeF scrG_refl (v := ?_) hfn (by kernel_rfl) (i := 8) rfl (by kernel_rfl) (wanted_none rfl) (fun w' => ?_) ?_
    rotate_left
    · simp [execOp, go_sem]; exact rfl
    simp only [Act.put, List.setIfInBounds_toArray, List.set_cons_succ, List.set_cons_zero]
    refine Ser2.takeF scrG_refl (v := ?_) hfn (by kernel_rfl) (i := 9) rfl (by kernel_rfl) (wanted_none rfl) (fun w' => ?_) ?_
    rotate_left
    · simp [execOp, go_sem]; exact rfl
    simp only [Act.put, List.setIfInBounds_toArray, List.set_cons_succ, List.set_cons_zero]
    refine Ser2.takeL (Kp := scrK b (off + 2)) scrK_refl scrK_trans scrG_refl (hd := [17]) scrG2 (via := [[17]]) (v := ?_) hfn (by kernel_rfl) (i := 10) rfl (by kernel_rfl) (wanted_none rfl) (fun w' hbk => ?_) ?_
    rotate_left
    · have q := scrK_cell hbk f2w
      simp [execOp, go_sem, q]; exact rfl
    simp only [Act.put, List.setIfInBounds_toArray, List.set_cons_succ, List.set_cons_zero]
    refine Ser2.takeF scrG_refl (v := ?_) hfn (by kernel_rfl) (i := 11) rfl (by kernel_rfl) (wanted_none rfl) (fun w' => ?_) ?_
    rotate_left
    · simp [execOp, go_sem, hsz]; exact rfl
    simp only [Act.put, List.setIfInBounds_toArray, List.set_cons_succ, List.set_cons_zero]
    refine Ser2.takeF scrG_refl (v := ?_) hfn (by kernel_rfl) (i := 12) rfl (by kernel_rfl) (wanted_none rfl) (fun w' => ?_) ?_
    rotate_left
    · simp [execOp, go_sem]; exact rfl
    simp only [Act.put, List.setIfInBounds_toArray, List.set_cons_succ, List.set_cons_zero]
    refine Ser2.takeF scrG_refl (v := ?_) hfn (by kernel_rfl) (i := 13) rfl (by kernel_rfl) (wanted_none rfl) (fun w' => ?_) ?_
    rotate_left
    · simp [execOp, go_sem]; exact rfl
    simp only [Act.put, List.setIfInBounds_toArray, List.set_cons_succ, List.set_cons_zero]
    refine Ser2.runS (w1 := w.drew.setCell ⟨b, off + 1, none⟩ (.int .i64 (IntKind.wrap .i64 (n + 1)))) hfn (by kernel_rfl) (j := 14) rfl (by kernel_rfl) (wanted_none rfl) (by simp [execOp, go_sem, f1d, ff1]; done) scrG14 ?_
    simp only [Act.put]
    refine Ser2.takeF scrG_refl (v := ?_) hfn (by kernel_rfl) (i := 15) rfl (by kernel_rfl) (wanted_none rfl) (fun w' => ?_) ?_
    rotate_left
    · simp [execOp, go_sem]; exact rfl
    simp only [Act.put, List.setIfInBounds_toArray, List.set_cons_succ, List.set_cons_zero]
    refine Ser2.takeF scrG_refl (v := ?_) hfn (by kernel_rfl) (i := 16) rfl (by kernel_rfl) (wanted_none rfl) (fun w' => ?_) ?_
    rotate_left
    · simp [execOp, go_sem]; exact rfl
    simp only [Act.put, List.setIfInBounds_toArray, List.set_cons_succ, List.set_cons_zero]
    refine Ser2.runS (w1 := (w.drew.setCell ⟨b, off + 1, none⟩ (.int .i64 (IntKind.wrap .i64 (n + 1)))).setCell ⟨b, off + 2, none⟩ (.string (s ++ ⟨#[113]⟩))) hfn (by kernel_rfl) (j := 17) rfl (by kernel_rfl) (wanted_none rfl) (by simp [execOp, go_sem, f2, ffw]; done) scrG17 ?_
    simp only [Act.put]
    refine Ser2.doneK (by kernel_rfl) ?_
    revert HS
    generalize ((w.drew.setCell ⟨b, off + 1, none⟩ (.int .i64 (IntKind.wrap .i64 (n + 1)))).setCell ⟨b, off + 2, none⟩ (.string (s ++ ⟨#[113]⟩))) = w2
    intro HS
    have f3n : ∀ m w3, Scr X m w w3 → w3.cell? ⟨b, off + 3, none⟩ = some (.slice A c.length cap) := fun m w3 h => by
      obtain ⟨u', q, l⟩ := h.cell _ _ _ f3
      rcases l with rfl | ⟨_, _, e, _⟩ | ⟨_, _, e, _⟩
      · exact q
      · cases e
      · cases e
    have g3 := f3n _ _ HS.out
    clear f1 f2 f1d f2d ff1 ff2 f2w
    go_wp2_with fail
    go_loopw [24] (fun s24 wr => ∃ (i : Nat), i ≤ c.length ∧ s24 = .int .i64 i ∧ Scr X (1 + Tr.sizes (c.take i)) w wr)
      (fun s24 _ => c.length - (intOf s24).toNat)
    case atStart => exact ⟨0, Nat.zero_le _, rfl, by simpa [Tr.sizes] using HS.out⟩
    case round =>
      obtain ⟨i, hi, rfl, hsc⟩ := hrel
      have g4 := f3n _ _ hsc
      by_cases hlt : i < c.length
      · obtain ⟨b', off', hA, hk⟩ := strRow_at HROW.out i hlt
        rw [Nat.zero_add] at hk
        subst hA
        have hmem : c[i] ∈ c := List.getElem_mem hlt
        have hsz1 := Tr.sizes_take c i hlt
        have hsz2 := Tr.sizes_take_le c (i + 1)
        have HSC := Lib.hid hsc
        have HK := Lib.hid hk
        clear hsc hk
        go_wp2_with fail
        refine (IH.out _ hmem (M + (1 + Tr.sizes (c.take i))) _ _ wr (Str.scr HSC.out _ HK.out) (by omega)).mono ?_
        rintro e w1 ⟨⟨v, rfl⟩, hs1⟩
        have HS1 := Lib.hid (HSC.out.trans hs1)
        clear hs1
        go_wp2_with fail
        go_roundw
        case rel => exact ⟨i + 1, by omega, by go_num, by rw [hsz1, ← Nat.add_assoc]; exact HS1.out⟩
        case measure => simp [intOf]; omega
      · obtain rfl : i = c.length := by omega
        rw [List.take_length] at hsc
        have HSC := Lib.hid hsc
        clear hsc
        go_wp2_with fail
        refine bodyPost_end (results_none rfl _ _ _) rfl ?_
        exact ⟨⟨_, rfl⟩, by rw [Nat.add_comm]; exact HSC.out⟩

end Go.Proofs.Ytlpgapmbajblmaa
