/- Values that are read as data, whatever the data's type: a shape says how the cells of one datum read; slices of a shape; a slice that the call itself grows. No program in sight. -/
import Derived.Maps.AppendAt
import Derived.WalkKit
import Derived.Lib.Hide
import Derived.Deep.AppendLies
namespace Go.Proofs.Ytjikokmhknnnoaa
open Go.RowKit

structure Sh (α : Type) where
  n : Nat
  R : World → (Nat → Prop) → α → List Value → Prop
  len : ∀ {w ok x cs}, R w ok x cs → cs.length = n
  one : ∀ {w ok x cs}, R w ok x cs → ∀ u ∈ cs, u.oneCell' = true
  keep : ∀ {w w' : World} {ok ok' : Nat → Prop} {x : α} {cs : List Value}, (∀ b, ok b → ok' b) → (∀ b o, ok b → w'.cell? ⟨b, o, none⟩ = w.cell? ⟨b, o, none⟩) → R w ok x cs → R w' ok' x cs

theorem addr_add (b o j : Nat) : (⟨b, o, none⟩ : Addr).add j = ⟨b, o + j, none⟩ := by
  unfold Addr.add; split
  · rename_i h; subst h; rfl
  · rfl
theorem keepc {W w1 : World} (hb : Below W.heap.size W w1) {p : Addr} {v : Value} (h : W.cell? p = some v) : w1.cell? p = some v :=
  (hb.cell (World.block_lt_of_cell? W p h)).trans h
section
variable {α : Type} (S : Sh α)

/-- the cells of a row of data, one after another -/
def CellsS (w : World) (ok : Nat → Prop) : List α → List Value → Prop
  | [], cs => cs = []
  | x :: xs, cs => ∃ c r, cs = c ++ r ∧ S.R w ok x c ∧ CellsS w ok xs r

variable {S}
theorem CellsS.keep {w w' : World} {ok ok' : Nat → Prop} (hB : ∀ b, ok b → ok' b) (hk : ∀ b o, ok b → w'.cell? ⟨b, o, none⟩ = w.cell? ⟨b, o, none⟩) : ∀ {xs : List α} {cs : List Value}, CellsS S w ok xs cs → CellsS S w' ok' xs cs
  | [], _, h => h
  | _ :: _, _, ⟨c, r, e, h1, h2⟩ => ⟨c, r, e, S.keep hB hk h1, h2.keep hB hk⟩
theorem CellsS.append {w : World} {ok : Nat → Prop} : ∀ {xs ys : List α} {cs ds : List Value}, CellsS S w ok xs cs → CellsS S w ok ys ds → CellsS S w ok (xs ++ ys) (cs ++ ds)
  | [], ys, cs, ds, h, h' => by obtain rfl : cs = [] := h; simpa using h'
  | x :: xs, ys, cs, ds, ⟨c, r, e, h1, h2⟩, h' => ⟨c, r ++ ds, by rw [e, List.append_assoc], h1, h2.append h'⟩
theorem CellsS.one {w : World} {ok : Nat → Prop} {x : α} {c : List Value} (h : S.R w ok x c) : CellsS S w ok [x] c := ⟨c, [], by simp, h, rfl⟩
theorem CellsS.len {w : World} {ok : Nat → Prop} : ∀ {xs : List α} {cs : List Value}, CellsS S w ok xs cs → cs.length = xs.length * S.n
  | [], cs, h => by obtain rfl : cs = [] := h; simp
  | x :: xs, cs, ⟨c, r, e, h1, h2⟩ => by rw [e, List.length_append, S.len h1, h2.len, List.length_cons, Nat.succ_mul]; omega
theorem CellsS.ones {w : World} {ok : Nat → Prop} : ∀ {xs : List α} {cs : List Value}, CellsS S w ok xs cs → ∀ u ∈ cs, u.oneCell' = true
  | [], cs, h => by obtain rfl : cs = [] := h; intro u hu; cases hu
  | x :: xs, cs, ⟨c, r, e, h1, h2⟩ => by
    intro u hu
    rw [e, List.mem_append] at hu
    exact hu.elim (S.one h1 u) (h2.ones u)
theorem CellsS.at_ {w : World} {ok : Nat → Prop} : ∀ {xs : List α} {cs : List Value}, CellsS S w ok xs cs → ∀ (j : Nat) (h : j < xs.length), ∃ c, S.R w ok xs[j] c ∧ ∀ m u, c[m]? = some u → cs[j * S.n + m]? = some u
  | [], _, _, j, h => absurd h (Nat.not_lt_zero _)
  | x :: xs, cs, ⟨c, r, e, h1, h2⟩, 0, _ => ⟨c, h1, fun m u hu => by
      rw [e, List.getElem?_append_left]
      · simpa using hu
      · have := (List.getElem?_eq_some_iff.1 hu).1; omega⟩
  | x :: xs, cs, ⟨c, r, e, h1, h2⟩, j + 1, h => by
    obtain ⟨d, hd, hm⟩ := h2.at_ j (by simpa using h)
    refine ⟨d, by simpa using hd, fun m u hu => ?_⟩
    have := hm m u hu
    have hl := S.len h1
    rw [e, List.getElem?_append_right (by rw [hl, Nat.succ_mul]; omega), hl]
    rwa [show (j + 1) * S.n + m - S.n = j * S.n + m from by rw [Nat.succ_mul]; omega]

variable (S)
/-- the slice value v reads as the data xs; its cells lie in a block that is ok -/
def SliceS (w : World) (ok : Nat → Prop) (v : Value) (xs : List α) : Prop :=
  ∃ (A : Option Addr) (cap : Nat), v = .slice A xs.length cap ∧ xs.length ≤ cap ∧ cap ≤ 9223372036854775807 ∧ (A = none → cap = 0) ∧
    ∀ (j : Nat) (h : j < xs.length), ∃ b off cs, A = some ⟨b, off, none⟩ ∧ ok b ∧ (∀ m u, cs[m]? = some u → w.cell? ⟨b, off + j * S.n + m, none⟩ = some u) ∧ S.R w ok xs[j] cs
variable {S}
theorem SliceS.keep {w w' : World} {ok ok' : Nat → Prop} {v : Value} {xs : List α} (hB : ∀ b, ok b → ok' b) (hk : ∀ b o, ok b → w'.cell? ⟨b, o, none⟩ = w.cell? ⟨b, o, none⟩) (h : SliceS S w ok v xs) : SliceS S w' ok' v xs := by
  obtain ⟨A, cap, hv, h1, h2, hn, hc⟩ := h
  refine ⟨A, cap, hv, h1, h2, hn, fun j hj => ?_⟩
  obtain ⟨b, off, cs, hA, hb, hcell, hr⟩ := hc j hj
  exact ⟨b, off, cs, hA, hB b hb, fun m u hu => by rw [hk b _ hb]; exact hcell m u hu, S.keep hB hk hr⟩
theorem SliceS.nil (w : World) (ok : Nat → Prop) : SliceS S w ok (.slice none 0 0) [] := ⟨none, 0, rfl, Nat.le_refl _, by omega, fun _ => rfl, fun j h => absurd h (Nat.not_lt_zero _)⟩
theorem SliceS.weak {w : World} {ok ok' : Nat → Prop} {v : Value} {xs : List α} (h : SliceS S w ok v xs) (hB : ∀ b, ok b → ok' b) : SliceS S w ok' v xs := h.keep hB (fun _ _ _ => rfl)
theorem SliceS.below {w w' : World} {v : Value} {xs : List α} (h : SliceS S w (fun b => b < w.heap.size) v xs) (hb : Below w.heap.size w w') : SliceS S w' (fun b => b < w'.heap.size) v xs :=
  h.keep (fun _ hb' => Nat.lt_of_lt_of_le hb' hb.size) (fun b o hb' => hb.cell (p := ⟨b, o, none⟩) hb')
variable (S)
/-- the slice value v is a row of the call's own (from block base on) that reads as the data -/
def OwnS (e : TypeId) (w : World) (base : Nat) (v : Value) (xs : List α) : Prop :=
  ∃ cs, w.ownsRow base e S.n v xs.length cs ∧ CellsS S w (fun b => base ≤ b ∧ b < w.heap.size ∧ v.ownBlock ≠ some b) xs cs
variable {S} {e : TypeId}
theorem OwnS.nil (w : World) (base : Nat) : OwnS S e w base (.slice none 0 0) [] := ⟨[], World.ownsRow_nil _ _ _ _, rfl⟩
theorem grownOf {a w : World} (h : Below a.heap.size a w) (row : Option Nat) : a.grownBy w row := ⟨h.os, h.tape, h.output, h.size, fun i hi _ => h.block i hi⟩
theorem OwnS.lt {w : World} {base : Nat} {v : Value} {xs : List α} (h : OwnS S e w base v xs) : ∀ g, v.ownBlock = some g → base ≤ g ∧ g < w.heap.size := by
  obtain ⟨cs, ho, _⟩ := h
  exact ho.lt
theorem OwnS.grown {w w' : World} {base : Nat} {v : Value} {xs : List α} (h : OwnS S e w base v xs) {row : Option Nat} (hg : w.grownBy w' row) (hr : ∀ g, row = some g → v.ownBlock ≠ some g ∧ g < base) : OwnS S e w' base v xs := by
  obtain ⟨cs, ho, hc⟩ := h
  have hs := hg.size
  refine ⟨cs, ho.kept hg ?_, hc.keep (fun b hb' => ⟨hb'.1, by omega, hb'.2.2⟩) (fun b o hb' => World.cell?_of_block (hg.block b hb'.2.1 (fun e => by have := (hr b e.symm).2; omega)))⟩
  cases hv : v.ownBlock with
  | none => exact .inl rfl
  | some g => exact .inr fun e => (hr g e.symm).1 hv
theorem OwnS.below {w w' : World} {base : Nat} {v : Value} {xs : List α} (h : OwnS S e w base v xs) (hb : Below w.heap.size w w') : OwnS S e w' base v xs :=
  h.grown (grownOf hb none) (fun g e => by cases e)
/-- a store into a block that is older than the row -/
theorem OwnS.setCell {w : World} {base : Nat} {v : Value} {xs : List α} (h : OwnS S e w base v xs) {p : Addr} (hp : p.block < base) (u : Value) : OwnS S e (w.setCell p u) base v xs := by
  obtain ⟨cs, ho, hc⟩ := h
  refine ⟨cs, ⟨ho.1, ?_⟩, hc.keep (fun b hb' => ⟨hb'.1, by simpa [World.setCell] using hb'.2.1, hb'.2.2⟩) (fun b o hb' => World.cell?_of_block (Below.heap_setCell _ _ _ _ (show b ≠ p.block by omega)))⟩
  rcases ho.2 with h0 | ⟨g, cap, cur, hv, hb, hg, r⟩
  · exact .inl h0
  · exact .inr ⟨g, cap, cur, hv, hb, (Below.heap_setCell _ _ _ _ (by omega)).trans hg, r⟩
theorem OwnS.drew {w : World} {base : Nat} {v : Value} {xs : List α} (h : OwnS S e w base v xs) : OwnS S e w.drew base v xs :=
  h.below (Below.refl _ w).drew

theorem OwnS.slice {w : World} {base : Nat} {v : Value} {xs : List α} (h : OwnS S e w base v xs) : SliceS S w (fun b => base ≤ b ∧ b < w.heap.size) v xs := by
  obtain ⟨cs, ho, hc⟩ := h
  rcases ho.2 with ⟨rfl, h0⟩ | ⟨g, cap, cur, rfl, hb, hg, hnc, hcm, hcs, htake⟩
  · have : xs = [] := List.eq_nil_of_length_eq_zero h0
    subst this
    exact SliceS.nil _ _
  · have hlt := (Array.getElem?_eq_some_iff.1 hg).1
    refine ⟨some ⟨g, 0, none⟩, cap, rfl, hnc, by simpa [maxLen] using hcm, (fun e => by cases e), fun j hj => ?_⟩
    obtain ⟨c, hr, hm⟩ := hc.at_ j hj
    refine ⟨g, 0, c, rfl, ⟨hb, hlt⟩, fun m u hu => ?_, S.keep (fun b hb' => ⟨hb'.1, hb'.2.1⟩) (fun _ _ _ => rfl) hr⟩
    have := ho.cells (g := g) rfl _ u (hm m u hu)
    rw [addr_add] at this
    simpa [Nat.add_assoc] using this

/-- append(v, ys...): the new data lie anywhere but in v's own block -/
theorem OwnS.append {P : Program} {t ty : TypeId} {i : TypeInfo} {z : Value} {bytes : Nat} (hund : P.underlying t = some (.slice e)) (hi : P.info? e = some i) (hz : i.zero = some z) (hsz : i.size = S.n) (hby : i.bytes = bytes) (hzc : z.cells.size = S.n) (hn : 0 < S.n)
    {W : World} {base : Nat} {v : Value} {xs ys : List α} (hO : OwnS S e W base v xs) {ad : Addr} {m c : Nat} {news : List Value} (hm : ys.length = m)
    (hnews : ∀ j u, news[j]? = some u → W.cell? (ad.add j) = some u) (hy : CellsS S W (fun b => base ≤ b ∧ b < W.heap.size ∧ v.ownBlock ≠ some b) ys news)
    (h63 : xs.length + m ≤ maxLen) (hbytes : (xs.length + m) * bytes ≤ 140737488355328) (hbase : base ≤ W.heap.size) :
    ∃ v' w', (Builtin.append_ #[t, t] ty #[v, .slice (some ad) m c]).run P W = .ok v' w' ∧ OwnS S e w' base v' (xs ++ ys) ∧ W.grownBy w' v.ownBlock ∧ (v'.ownBlock = v.ownBlock ∨ v'.ownBlock = some W.heap.size) := by
  obtain ⟨cs, hown, hc⟩ := hO
  obtain ⟨v', w', hr, hown', hg, _, hat⟩ := run_append_own_at (P := P) W base t ty e i z S.n bytes hund hi hz hsz hby hzc hn v xs.length cs hown ad m c news (by rw [hy.len, hm]) hnews hy.ones h63 hbytes hbase
  refine ⟨v', w', hr, ⟨cs ++ news, by rw [List.length_append, hm]; exact hown', ?_⟩, hg, hat⟩
  have hsz' := hg.size
  refine (hc.append hy).keep (fun b hb => ⟨hb.1, by omega, fun e => ?_⟩) (fun b o hb => World.cell?_of_block (hg.block b hb.2.1 (fun e => hb.2.2 e.symm)))
  rcases hat with e' | e'
  · rw [e'] at e; exact hb.2.2 e
  · rw [e'] at e
    simp only [Option.some.injEq] at e
    omega
/-- the element that lies in a block of its own -/
theorem news_block {W : World} {g : Nat} {cs : List Value} {t : TypeId} (hg : W.heap[g]? = some (.cells cs.toArray t (0, 0))) : ∀ j u, cs[j]? = some u → W.cell? ((⟨g, 0, none⟩ : Addr).add j) = some u := by
  intro j u hu
  rw [addr_add, Nat.zero_add, cell_of_row _ _ _ _ _ _ hg]
  simpa using hu
end

end Go.Proofs.Ytjikokmhknnnoaa
