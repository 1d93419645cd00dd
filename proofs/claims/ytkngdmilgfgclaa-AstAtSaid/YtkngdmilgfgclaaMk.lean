import Derived.Test.YtkngdmilgfgclaaCopy
import Derived.Test.YtkngdmilgfgclaaAmZ
import Derived.Test.YtkngdmilgfgclaaEnv
/- The reference's Copy as a call that hands its row back as a box. -/
namespace Go.Proofs.Ytkngdmilgfgclaa
open Go.RowKit Go.Shelf

theorem cells_R {w : World} {g : Gh} {ok : Nat → Prop} (hg : ∀ b o, ok b → g.ok b o) : ∀ {c : List Tr} {cs : List Value}, CellsS shNode w ok c cs → R w g (.agg ((c.map dN).flatMap D.cells)) cs
  | [], cs, h => by obtain rfl : cs = [] := h; exact .agg _ _ rfl (fun j h => absurd h (Nat.not_lt_zero _))
  | t :: r, cs, ⟨c, q, e, h1, h2⟩ => by
    rw [e, List.map_cons, List.flatMap_cons]
    exact R_agg_append (R_of_rep hg t h1).cell (cells_R hg h2)

/-- the call of a function that makes a node whose row is not empty -/
def makeCa (k N : Nat) : Nat → List D → St → Option (D × St) := fun k' args σ => if k' = k then (match args with
  | [d] => (match toTr d with
    | some t => if t.kids ≠ [] ∧ t.size ≤ N then some (.agg [.int .u8 t.kind, .int .i64 t.num, .str t.name, .bsl σ.bx.length 0 4 t.kids.length], { σ with bx := σ.bx ++ [(t.kids.map dN).flatMap D.cells] }) else none
    | none => none)
  | _ => none) else none
theorem makeCa_eq {k N : Nat} {t : Tr} (h1 : t.kids ≠ []) (h2 : t.size ≤ N) (σ : St) : makeCa k N k [dN t] σ = some (.agg [.int .u8 t.kind, .int .i64 t.num, .str t.name, .bsl σ.bx.length 0 4 t.kids.length], { σ with bx := σ.bx ++ [(t.kids.map dN).flatMap D.cells] }) := by
  simp only [makeCa, if_true, toTr_of]
  rw [if_pos ⟨h1, h2⟩]

theorem CaOk.makes {k N : Nat} (h : ∀ (t : Tr) (v : Value) (w : World), Rep w w.heap.size t v → t.size ≤ N → Calls Try.prog k #[v] w (MakesRow t w)) : CaOk Try.prog (makeCa k N) := by
  intro base w0 ok0 k' args σ d σ' q
  unfold makeCa at q
  split at q
  · rename_i hk
    subst hk
    split at q
    · rename_i x
      split at q
      · rename_i t ht
        split at q
        · rename_i hc
          obtain ⟨hne, hle⟩ := hc
          cases q
          refine ⟨rfl, fun g vs w hr hv => ?_⟩
          have hx := toTr_eq ht
          subst hx
          obtain ⟨v, rfl, hv1⟩ := vals_one hv
          have hrep := rep_of_val (fun b o q => RW.ok_lt hr q) hv1
          have hfit : ∃ (A : Option Addr) (cap : Nat), Fits t.kind t.num t.name t.kids.length cap := by
            cases t with
            | mk k n s c => simp only [Rep] at hrep; obtain ⟨A, cap, _, hf, _⟩ := hrep; exact ⟨A, cap, hf⟩
          obtain ⟨_, _, hf⟩ := hfit
          refine (h t v w hrep hle).mono ?_
          rintro e w' ⟨b0, vr, rfl, hb0, hown, hbel⟩
          obtain ⟨xs, hrow, hcs⟩ := hown
          rcases hrow.2 with ⟨rfl, h0⟩ | ⟨b, cap, cur, rfl, hbb, hcur, hlc, hmx, hcsz, htake⟩
          · exact absurd (List.eq_nil_of_length_eq_zero h0) hne
          have hlt : b < w'.heap.size := (Array.getElem?_eq_some_iff.1 hcur).1
          have hbs := RW.hbs hr
          obtain ⟨h1, e1⟩ := RW.grow hr hbel (ok' := fun c o => g.ok c o ∨ (w.heap.size ≤ c ∧ c < w'.heap.size ∧ c ≠ b)) (fun _ _ q => .inl q) (fun c o q => q.imp id (fun q => ⟨q.1, q.2.1⟩))
          have hbox : BoxIn w' { g with ok := fun c o => g.ok c o ∨ (w.heap.size ≤ c ∧ c < w'.heap.size ∧ c ≠ b) } b false ((t.kids.map dN).flatMap D.cells) := by
            refine ⟨xs, cur.toList.drop (t.kids.length * shNode.n), 24, ?_, ?_⟩
            · rw [← htake, List.take_append_drop, Array.toArray_toList]; exact hcur
            · refine cells_R (ok := fun c => b0 ≤ c ∧ c < w'.heap.size ∧ (Value.slice (some ⟨b, 0, none⟩) t.kids.length cap).ownBlock ≠ some c) (fun c o q => Or.inr ⟨by omega, q.2.1, fun e => q.2.2 (by rw [e]; rfl)⟩) hcs
          obtain ⟨r1, r2⟩ := h1.addBox (i := σ.bx.length) (b := b) (m := false) (by omega) hlt
            (fun o q => by
              rcases q with q | q
              · have := RW.ok_lt hr q; omega
              · exact q.2.2 rfl)
            (fun q => by have := (RW.prot hr b q).1; omega) (fun q => by have := (RW.kept hr b q).1; omega) (fun j q => by have := (RW.dom hr j b q).2.2.1; omega)
            (fun s y hs hy q => by
              obtain ⟨v2, e2, len, ys, x1, x2, _⟩ := RW.row hr s hs
              have x3 : g.ow s = some y := hy
              rw [x3] at x1
              cases x1
              have := (x2.lt b q).2; omega)
            (by simp) hbox
          refine ⟨_, _, rfl, r1.same_bx (fun j => snoc_at _ _ j), e1.trans r2, ?_⟩
          refine val_of_agg (.agg _ [.int .u8 t.kind, .int .i64 t.num, .string t.name, .slice (some ⟨b, 0, none⟩) t.kids.length cap] rfl (fun j h1 h2 => ?_))
          match j with
          | 0 => exact .int _ _ ⟨by simp [IntKind.min, IntKind.signed]; have := hf.k0; omega, by simp [IntKind.max, IntKind.bits, IntKind.signed]; have := hf.k1; omega⟩
          | 1 => exact .int _ _ ⟨by simp [IntKind.min, IntKind.bits, IntKind.signed]; have := hf.n0; omega, by simp [IntKind.max, IntKind.bits, IntKind.signed]; have := hf.n1; omega⟩
          | 2 => exact .str _ hf.s1
          | 3 =>
            refine .bsl _ _ _ _ b cap ?_ ?_ hlc (by simpa [maxLen] using hmx) (by omega)
            · show (if σ.bx.length = σ.bx.length then _ else _) = _; rw [if_pos rfl]
            · show (if σ.bx.length = σ.bx.length then _ else _) = _; rw [if_pos rfl]
        · cases q
      · cases q
    · cases q
  · cases q
theorem ca_copy : CaOk Try.prog (makeCa 29 1000000) := CaOk.makes copy_row
end Go.Proofs.Ytkngdmilgfgclaa
