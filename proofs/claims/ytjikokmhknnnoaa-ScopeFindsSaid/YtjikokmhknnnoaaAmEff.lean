/- Operations that make or write memory. Over any program. -/
import Derived.Test.YtjikokmhknnnoaaAmSt
namespace Go.Proofs.Ytjikokmhknnnoaa
open Go.RowKit

section
variable {P : Program} {base : Nat} {w0 : World} {ok0 : Gh} {g : Gh} {bx : Nat → Option (List D)} {K lv : Nat → Prop} {w w' : World} {ρ : Operand → Value} {o : Oper}

/-- a new box, in a new block -/
theorem newBoxIn (h : RW P base w0 ok0 g bx K lv w) {i : Nat} {cs : List D} {m : Bool} (X : Obj) (hi : bx i = none) (hr : Ext g w g (w.alloc X) → BoxIn (w.alloc X) g w.heap.size m cs) :
    ∃ g', RW P base w0 ok0 g' (fun j => if j = i then some cs else bx j) K lv (w.alloc X) ∧ Ext g w g' (w.alloc X) ∧ g'.β i = some w.heap.size ∧ g'.mp i = m := by
  have hb : Below w.heap.size w (w.alloc X) := (Below.refl _ w).alloc (Nat.le_refl _) _
  obtain ⟨h1, e1⟩ := h.grow hb (ok' := g.ok) (fun _ _ q => q) (fun _ _ q => .inl q)
  obtain ⟨h2, e2⟩ := h1.addBox (i := i) (b := w.heap.size) (cs := cs) (m := m) h.hbs (by simp) (fun o q => by have := h.ok_lt q; omega) (fun q => by have := (h.prot _ q).1; omega) (fun q => by have := (h.kept _ q).1; omega) (fun j q => by have := (h.dom j _ q).2.2.1; omega)
    (fun s x hs hx q => by
      obtain ⟨v, e, len, xs, q1, q2, _⟩ := h.row s hs
      rw [hx] at q1
      cases q1
      have := (q2.lt _ q).2; omega) hi (hr e1)
  exact ⟨_, h2, e1.trans e2, by show (if i = i then _ else _) = _; rw [if_pos rfl], by show (if i = i then _ else _) = _; rw [if_pos rfl]⟩
/-- a new box -/
theorem newBox (h : RW P base w0 ok0 g bx K lv w) {i : Nat} {cs : List D} {vs : List Value} (t : TypeId) (hi : bx i = none) (hr : R w g (.agg cs) vs) :
    ∃ g', RW P base w0 ok0 g' (fun j => if j = i then some cs else bx j) K lv (w.alloc (.cells vs.toArray t)) ∧ Ext g w g' (w.alloc (.cells vs.toArray t)) ∧ val (w.alloc (.cells vs.toArray t)) g' (.ptr i 0) (.pointer (some ⟨w.heap.size, 0, none⟩)) := by
  obtain ⟨g', h1, h2, h3, h4⟩ := newBoxIn h (i := i) (cs := cs) (m := false) (.cells vs.toArray t) hi (fun e => ⟨vs, t, heap_alloc_new w _, hr.ext e⟩)
  exact ⟨g', h1, h2, val_of_R (.ptr _ _ _ h3 h4) rfl⟩
/-- a new map -/
theorem newMap (h : RW P base w0 ok0 g bx K lv w) {i : Nat} (hi : bx i = none) :
    ∃ g', RW P base w0 ok0 g' (fun j => if j = i then some [] else bx j) K lv (w.alloc (.map #[] 0)) ∧ Ext g w g' (w.alloc (.map #[] 0)) ∧ val (w.alloc (.map #[] 0)) g' (.mref i) (.map (some w.heap.size)) := by
  obtain ⟨g', h1, h2, h3, h4⟩ := newBoxIn h (i := i) (cs := []) (m := true) (.map #[] 0) hi (fun e => ⟨#[], 0, heap_alloc_new w _, rfl, by simp, fun j hj => absurd hj (Nat.not_lt_zero _)⟩)
  exact ⟨g', h1, h2, val_of_R (.mref _ _ h3 h4) rfl⟩

theorem flat_at (cs : Nat → List Value) (n : Nat) : ∀ (m i j r : Nat), (∀ k, i ≤ k → k < i + m → (cs k).length = n) → j < m → r < n → ((List.range' i m).flatMap cs)[j * n + r]? = (cs (i + j))[r]?
  | 0, _, _, _, _, h, _ => absurd h (Nat.not_lt_zero _)
  | m + 1, i, 0, r, hn, _, hr => by
    rw [List.range'_succ, List.flatMap_cons, List.getElem?_append_left (by rw [hn i (Nat.le_refl _) (by omega)]; omega)]
    simp
  | m + 1, i, j + 1, r, hn, h, hr => by
    have hi := hn i (Nat.le_refl _) (by omega)
    rw [List.range'_succ, List.flatMap_cons, List.getElem?_append_right (by rw [hi, Nat.add_mul]; omega), hi]
    rw [show (j + 1) * n + r - n = j * n + r from by rw [Nat.add_mul]; omega]
    rw [flat_at cs n m (i + 1) j r (fun k h1 h2 => hn k (by omega) (by omega)) (by omega) hr]
    rw [show i + 1 + j = i + (j + 1) from by omega]
theorem flat_len (cs : Nat → List Value) (n : Nat) : ∀ (m i : Nat), (∀ k, i ≤ k → k < i + m → (cs k).length = n) → ((List.range' i m).flatMap cs).length = m * n
  | 0, _, _ => by simp
  | m + 1, i, hn => by
    rw [List.range'_succ, List.flatMap_cons, List.length_append, hn i (Nat.le_refl _) (by omega), flat_len cs n m (i + 1) (fun k h1 h2 => hn k (by omega) (by omega)), Nat.add_mul]
    omega
theorem flat_mem (cs : Nat → List Value) {m i : Nat} {u : Value} (h : u ∈ (List.range' i m).flatMap cs) : ∃ k, i ≤ k ∧ k < i + m ∧ u ∈ cs k := by
  obtain ⟨k, hk, hu⟩ := List.mem_flatMap.1 h
  have := List.mem_range'_1.1 hk
  exact ⟨k, this.1, this.2, hu⟩
/-- any place of the cells, side by side -/
theorem flat_split {n k m : Nat} (hk : k < m * n) : ∃ j r, j < m ∧ r < n ∧ k = j * n + r := by
  have hn : 0 < n := by
    rcases Nat.eq_zero_or_pos n with h | h
    · rw [h] at hk; omega
    · exact h
  exact ⟨k / n, k % n, by rw [Nat.div_lt_iff_lt_mul hn]; exact hk, Nat.mod_lt _ hn, by rw [Nat.mul_comm]; exact (Nat.div_add_mod k n).symm⟩

/-- a slice whose elements lie side by side in a row of the run's own -/
theorem own_slice {e : TypeId} {n : Nat} {v : Value} {l : List D} {xs : List Value} {s : Nat} {cs : Nat → List Value} (ho : w.ownsRow base e n v l.length xs) (how : g.ow s = some (v, e)) (hok : ∀ b, v.ownBlock = some b → ∀ o, o < l.length * n → g.ok b o)
    (hr : ∀ (j : Nat) (h : j < l.length), R w g l[j] (cs j)) (hn : ∀ j, j < l.length → (cs j).length = n) (hx : ∀ j r u, j < l.length → (cs j)[r]? = some u → xs[j * n + r]? = some u) (hne : l ≠ [] ∨ ∃ A c, v = .slice (some A) 0 c) : val w g (.slice (.own s e) n l) v := by
  have ho' := ho
  rcases ho.2 with ⟨rfl, h0⟩ | ⟨b, cap, cur, rfl, _, hg, hnc, hcm, hcs, htake⟩
  · exfalso
    rcases hne with h | ⟨A, c, h⟩
    · exact h (List.eq_nil_of_length_eq_zero h0)
    · cases h
  · refine val_of_R (.slice (.own s e) n l (some ⟨b, 0, none⟩) cap cs hnc (by simpa [maxLen] using hcm) (fun s' e' q => by cases q; exact how) trivial trivial hr hn (fun j hj => ⟨b, 0, rfl, fun m u hu => ?_⟩)) rfl
    have hm : m < n := by rw [← hn j hj]; exact (List.getElem?_eq_some_iff.1 hu).1
    have hlt : j * n + m < l.length * n := by
      have : (j + 1) * n ≤ l.length * n := Nat.mul_le_mul_right _ hj
      rw [Nat.add_mul] at this; omega
    rw [show 0 + j * n + m = j * n + m from by omega]
    refine ⟨hok b rfl _ hlt, ?_⟩
    have := ho'.cells (g := b) rfl _ _ (hx j m u hj hu)
    rwa [addr_plus, Nat.zero_add] at this

/-- a new row, with a stamp -/
theorem newRow' (h : RW P base w0 ok0 g bx K lv w) {s : Nat} {e : TypeId} {l : List D} {cs : Nat → List Value} (hs : ¬ K s) (hl : l.length ≤ 9223372036854775807)
    (hr : ∀ (j : Nat) (h : j < l.length), R w g l[j] (cs j)) (hn : ∀ j, j < l.length → (cs j).length = P.cellsOf e) :
    ∃ g', RW P base w0 ok0 g' bx (fun j => K j ∨ j = s) (fun j => lv j ∨ j = s) (w.alloc (.cells ((List.range' 0 l.length).flatMap cs).toArray e)) ∧ Ext g w g' (w.alloc (.cells ((List.range' 0 l.length).flatMap cs).toArray e)) ∧
      val (w.alloc (.cells ((List.range' 0 l.length).flatMap cs).toArray e)) g' (.slice (.own s e) (P.cellsOf e) l) (.slice (some ⟨w.heap.size, 0, none⟩) l.length l.length) := by
  have hb : Below w.heap.size w (w.alloc (.cells ((List.range' 0 l.length).flatMap cs).toArray e)) := (Below.refl _ w).alloc (Nat.le_refl _) _
  obtain ⟨h1, e1⟩ := h.grow hb (ok' := fun b o => g.ok b o ∨ (b = w.heap.size ∧ o < l.length * P.cellsOf e)) (fun _ _ q => .inl q) (fun b o q => q.imp id (fun q => by simp [q.1]))
  have hfl := flat_len cs (P.cellsOf e) l.length 0 (fun k _ hk => hn k (by omega))
  have hown : (w.alloc (.cells ((List.range' 0 l.length).flatMap cs).toArray e)).ownsRow base e (P.cellsOf e) (.slice (some ⟨w.heap.size, 0, none⟩) l.length l.length) l.length ((List.range' 0 l.length).flatMap cs) :=
    ⟨hfl, .inr ⟨w.heap.size, l.length, _, rfl, h.hbs, heap_alloc_new w _, Nat.le_refl _, by simpa [maxLen] using hl, by simpa using hfl, List.take_of_length_le (by rw [hfl]; exact Nat.le_refl _)⟩⟩
  obtain ⟨h2, e2⟩ := h1.addRow (s := s) hs hown (fun b q => by
    obtain rfl : w.heap.size = b := by simpa [Value.ownBlock] using q
    refine ⟨fun o q => ?_, fun i q => ?_, fun s' x hs' hx q => ?_, fun q => ?_, fun q => ?_⟩
    · rcases q with q | q
      · have := h.ok_lt q; omega
      · exact q.2
    · have := (h.dom i _ q).2.2.1; omega
    · obtain ⟨v, e, len, xs, q1, q2, _⟩ := h.row s' hs'
      have hx' : g.ow s' = some x := hx
      rw [hx'] at q1
      cases q1
      have := (q2.lt _ q).2; omega
    · have := (h.prot _ q).1; omega
    · have := (h.kept _ q).1; omega)
  refine ⟨_, h2, e1.trans e2, own_slice (xs := (List.range' 0 l.length).flatMap cs) (cs := cs) hown (by show (if s = s then _ else _) = _; rw [if_pos rfl]) (fun b q o ho => .inr ⟨by simpa [Value.ownBlock] using q.symm, ho⟩) (fun j hj => (hr j hj).ext (e1.trans e2)) hn (fun j r u hj hu => ?_) (by
    cases l with
    | nil => exact .inr ⟨_, _, rfl⟩
    | cons a r => exact .inl (by simp))⟩
  rw [flat_at cs (P.cellsOf e) l.length 0 j r (fun k _ hk => hn k (by omega)) hj (by rw [← hn j hj]; exact (List.getElem?_eq_some_iff.1 hu).1), Nat.zero_add]
  exact hu

/-- a row of the run's own is written behind its end -/
theorem RW.rowPut (h : RW P base w0 ok0 g bx K lv w) {st b : Nat} {v : Value} {e : TypeId} (hlv : lv st) (how : g.ow st = some (v, e)) (hb : v.ownBlock = some b) (hs : w'.heap.size = w.heap.size) (hot : ∀ c, c ≠ b → w'.heap[c]? = w.heap[c]?)
    (hos : w'.os = w.os ∧ w'.tape = w.tape ∧ w'.output = w.output) (hcell : ∀ o, g.ok b o → w'.cell? ⟨b, o, none⟩ = w.cell? ⟨b, o, none⟩) {ok' : Nat → Nat → Prop} (h1 : ∀ c o, g.ok c o → ok' c o) (h2 : ∀ c o, ok' c o → g.ok c o ∨ c = b) :
    RW P base w0 ok0 { g with ok := ok' } bx K (fun j => lv j ∧ j ≠ st) w' ∧ Ext g w { g with ok := ok' } w' := by
  obtain ⟨v', e', len, xs, q1, q2, q3⟩ := h.row st hlv
  rw [how] at q1
  cases q1
  obtain ⟨l1, l2⟩ := q2.lt b hb
  have hnb := (q3 b hb).2
  have hpr : ∀ c, g.pr c → w'.heap[c]? = w.heap[c]? := fun c q => hot c (fun e => by rw [e] at q; exact (h.prot b q).2.2 st _ hlv how hb)
  have hkp : ∀ c, g.kp c → w'.heap[c]? = w.heap[c]? := fun c q => hot c (fun e => by rw [e] at q; exact (h.kept b q).2.2 st _ hlv how hb)
  have he : Ext g w { g with ok := ok' } w' := ⟨h1, fun _ _ q => q, fun _ _ q => q, fun c o q => by
    by_cases hc : c = b
    · subst hc; exact hcell o q
    · exact World.cell?_of_block (hot c hc), fun c q => ⟨q, hpr c q⟩, fun _ _ q => q, fun _ _ _ => rfl, fun c q => ⟨q, hkp c q, fun o q' => (h2 c o q').resolve_right (fun e => by rw [e] at q; exact (h.kept b q).2.2 st _ hlv how hb), fun q => q⟩, Nat.le_of_eq hs.symm⟩
  refine ⟨⟨h.below.trans ⟨hos.1, hos.2.1, hos.2.2, by omega, fun k hk => hot k (by omega)⟩, by rw [hs]; exact h.hbs, ?_, ?_, ?_, h.inj, ?_, fun s s' x x' c q q' => h.rinj s s' x x' c q.1 q'.1, h.fresh, fun c q => ⟨by rw [hs]; exact (h.prot c q).1, (h.prot c q).2.1, fun s x hs' => (h.prot c q).2.2 s x hs'.1⟩, fun v L q => (h.iter v L q).ext (by omega) (fun c q => ⟨q, hpr c q⟩), fun c q => ⟨by rw [hs]; exact (h.kept c q).1, (h.kept c q).2.1, fun s x hs' => (h.kept c q).2.2 s x hs'.1⟩, h.prb⟩, he⟩
  · intro c o q
    rw [hs]
    rcases h2 c o q with q | q
    · exact h.okb c o q
    · subst q; exact .inr ⟨l1, l2⟩
  · intro i cs q
    obtain ⟨c, q1, q2⟩ := h.box i cs q
    exact ⟨c, q1, q2.ext he (hot c (fun e => by rw [e] at q1; exact hnb i q1))⟩
  · intro i c q
    obtain ⟨q1, q2, q3, q4⟩ := h.dom i c q
    refine ⟨q1, q2, by omega, fun o q5 => ?_⟩
    rcases h2 c o q5 with q6 | q6
    · exact q4 o q6
    · rw [q6] at q; exact hnb i q
  · rintro s ⟨hs', hne⟩
    obtain ⟨u, e2, len2, ys, r1, r2, r3⟩ := h.row s hs'
    have hnb' : u.ownBlock ≠ some b := fun q => hne (h.rinj s st _ _ b hs' hlv r1 how q hb)
    refine ⟨u, e2, len2, ys, r1, r2.kept (row := some b) ⟨hos.1, hos.2.1, hos.2.2, by omega, fun k _ hk => hot k (fun e => hk (by rw [e]))⟩ (.inr hnb'), fun c hc => ⟨fun o q => ?_, (r3 c hc).2⟩⟩
    rcases h2 c o q with q | q
    · exact (r3 c hc).1 o q
    · rw [q] at hc; exact absurd hc hnb'
end

end Go.Proofs.Ytjikokmhknnnoaa
