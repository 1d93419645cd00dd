import Derived.Test.YtmglacjcefajlaaLs
/- make([]T, n) as a box, for elements of several cells; slots and boxes that a freezing can turn. Over any program. -/
namespace Go.Proofs.Ytmglacjcefajlaa
open Go.RowKit

section
variable {P : Program} {ops rest : List Oper} {o : Oper} {σ : St} {Q : Ex → St → Prop}
theorem R_rep {w : World} {g : Gh} {ds : List D} {cs : List Value} (h : R w g (.agg ds) cs) : ∀ n : Nat, R w g (.agg ((List.replicate n ds).flatten)) ((List.replicate n cs).flatten)
 | 0 => .agg _ _ rfl (fun j h => absurd h (Nat.not_lt_zero _))
 | n + 1 => by
  rw [zr1, zr1, List.flatten_cons, List.flatten_cons]
  exact R_agg_append h (R_rep h n)
theorem rep_at {α : Type} {l : List α} : ∀ (n j : Nat), ((List.replicate n l).flatten)[j]? = if j < n * l.length then l[j % l.length]? else none
 | 0, j => by rw [if_neg (by omega)]; simp
 | n + 1, j => by
  rw [zr1, List.flatten_cons]
  by_cases h : j < l.length
  ·rw [List.getElem?_append_left h, Nat.mod_eq_of_lt h, if_pos (by rw [Nat.succ_mul]; omega)]
  ·rw [List.getElem?_append_right (by omega), rep_at n (j - l.length), Nat.mod_eq_sub_mod (Nat.le_of_not_lt h)]
   have e : (j - l.length < n * l.length) ↔ (j < (n + 1) * l.length) := by rw [Nat.succ_mul]; omega
   by_cases h2 : j - l.length < n * l.length
   ·rw [if_pos h2, if_pos (e.1 h2)]
   ·rw [if_neg h2, if_neg (fun q => h2 (e.2 q))]
theorem made_flat (z : Array Value) (hz : 0 < z.size) (n : Nat) : (madeCells z (n * z.size)).toList = (List.replicate n z.toList).flatten := by
 apply List.ext_getElem?
 intro j
 rw [rep_at]
 have hm : j % z.size < z.size := Nat.mod_lt _ hz
 by_cases hj : j < n * z.size
 ·rw [if_pos (by simpa using hj)]
  simp [madeCells, hj, hm]
 ·rw [if_neg (by simpa using hj)]
  simp [madeCells, hj]
/-- a row of zeros as a box -/
theorem LS_make {t e : TypeId} {i : TypeInfo} {z : Value} {ds : List D} {s n : Nat} {k : IntKind} (hw : awant ops σ.fr o = true) (ho : o.op = .makeSlice t (.tmp s) (.tmp s)) (hu : P.underlying t = some (.slice e)) (hi : P.info? e = some i) (hz : i.zero = some z) (hzc : ofCells z.cells.toList = some ds) (hsz : z.cells.size = i.size) (hpos : 0 < i.size) (hby : i.bytes ≤ 4096)
  (hv : ev σ.fr (.tmp s) = .int k (n : Int)) (hn : n ≤ 1000000) (hq : LS P ops rest (({ σ with bx := σ.bx ++ [(List.replicate n ds).flatten] } : St).put o.dst (.bsl σ.bx.length 0 i.size n)) Q) : LS P ops (o :: rest) σ Q := by
 refine LS_hand (SWp_hand (σ1 := { σ with bx := σ.bx ++ [(List.replicate n ds).flatten] }) (d := .bsl σ.bx.length 0 i.size n) (by simpa using hw) (fun c q => by rw [ho] at q; cases q) rfl (fun base w0 ok0 g a w hr => ?_)) hq
 have hx := ev_val hr.fr hr.len (.tmp s) (.inr ⟨s, rfl⟩)
 rw [hv] at hx
 have hR0 : R w g (.agg ds) z.cells.toList := ofCells_R hzc
 have hmk : (Instr.makeSlice t (.int k (n : Int)) (.int k (n : Int))).run P w = .ok (.slice (some ⟨w.heap.size, 0, none⟩) n n) (w.alloc (.cells ((List.replicate n z.cells.toList).flatten).toArray e)) := by
  have hmul : i.bytes * n ≤ 4096 * 1000000 := Nat.mul_le_mul hby (by omega)
  have h3 : ((i.bytes * n : Nat) : Int) ≤ 281474976710656 := by omega
  rw [Int.natCast_mul] at h3
  have := run_make (P := P) w t e i z hu hi hz k k n n (by omega) (Int.le_refl _) h3 (by omega)
  rw [this]
  simp only [Int.toNat_natCast]
  rw [← made_flat z.cells (by rw [hsz]; exact hpos), Array.toArray_toList, hsz]
 obtain ⟨g', r1, r2, r3⟩ := RS.box hr.rs (cs := (List.replicate n ds).flatten) (vs := (List.replicate n z.cells.toList).flatten) e (R_rep hR0 n)
 have hxv := (val_int hx).1
 refine .inl ⟨.slice (some ⟨w.heap.size, 0, none⟩) n n, _, g', ?_, r1, r2, ?_⟩
 ·simp only [execOp, ho, hxv]
  refine (show ((do let v ← Instr.makeSlice t (.int k (n : Int)) (.int k (n : Int)); pure (Next.value v)) : Sem Next).run P w = _ from ?_)
  rw [Sem.run_bind, hmk]
  rfl
 ·obtain ⟨b, hb, e1⟩ := val_ptr r3
  have e2 : b = w.heap.size := by simpa using e1.symm
  subst e2
  exact val_of_R (.bsl _ _ _ _ _ n hb.1 hb.2 (Nat.le_refl _) (by omega) (by omega)) rfl
end
/-- slots that a freezing of box i can turn: a row of N elements of n cells -/
def BsN (i n N : Nat) (d : D) : Prop := d.avoid i = true ∨ d = .bsl i 0 n N ∨ ∃ k, k < N ∧ d = .bsl i (k * n) 0 0
theorem BsN.fz {i n : Nat} {l : List D} {d : D} (hn : 0 < n) (h4 : ∀ d ∈ l, d.cells.length = n) (h : BsN i n l.length d) : ∃ d', Fz i (l.flatMap D.cells) d d' := by
 rcases h with h | rfl | ⟨k, hk, rfl⟩
 ·exact ⟨d, .keep d h⟩
 ·exact ⟨_, Fz.row (l := l) rfl rfl hn h4⟩
 ·exact ⟨_, Fz.cell (l := l) (k := k) rfl rfl hk h4⟩
inductive BnL (i n N : Nat) : List D → Prop
 | nil : BnL i n N []
 | cons {d : D} {l : List D} (h : BsN i n N d) (t : BnL i n N l) : BnL i n N (d :: l)
theorem BnL.at {i n N : Nat} {l : List D} (h : BnL i n N l) : ∀ t : Nat, BsN i n N (nthD l t) := by
 induction h with
 | nil => intro t; exact .inl rfl
 | cons h _ ih =>
  intro t
  cases t with
  | zero => exact h
  | succ t => exact ih t
theorem BnL.slot {i n N : Nat} {fr : List D} {bx : List (List D)} {nx : Nat} {lv : List Nat} (h : BnL i n N fr) : ∀ t, BsN i n N (slotOf ⟨fr, bx, nx, lv⟩ t) := h.at
theorem FzB.all {i : Nat} {cs fr : List D} : ∀ {r : List (List D)} {k : Nat}, (∀ c ∈ r, D.avoids i c = true) → FzB i cs fr k r r
 | [], _, _ => .nil _
 | c :: _r, _, h => .keep (h c List.mem_cons_self) (FzB.all fun c hc => h c (List.mem_cons_of_mem _ hc))
end Go.Proofs.Ytmglacjcefajlaa
