/- What the bound of the second form gives: the size of a tree. -/
import Derived.Test.YthgdibdapjaljaaRead
import Derived.Test.YthgdibdapjaljaaBK
import Derived.Test.YthgdibdapjaljaaFi
import Derived.JoinedCond
namespace Go.Proofs.Ythgdibdapjaljaa
open Go.ChangeShapes Go.WideShapes Go.ChangeAt Go.RowKit

theorem cells_node : Try.prog.cellsOf 44 = 4 := by kernel_rfl
theorem cells_nodes : Try.prog.cellsOf 42 = 1 := by kernel_rfl

section
variable {H : Type}
theorem bulk_one (d : DataW H) : 1 ≤ Rows.uptoBulk d := by
 cases d with
 | lit l => cases l <;> simp [Rows.uptoBulk]
 | nil => simp [Rows.uptoBulk]
 | ptr d => simp [Rows.uptoBulk]
 | slice elems spare => simp [Rows.uptoBulk]
 | agg parts => simp [Rows.uptoBulk]
 | iface t d => simp [Rows.uptoBulk]
 | map entries => simp [Rows.uptoBulk]
 | held h => simp [Rows.uptoBulk]
theorem bulk_sum : ∀ (L : List Tr) (M : List (DataW H × List MemPlace)), L.length = M.length → (∀ i (h : i < L.length) (h' : i < M.length), 2 * L[i].size ≤ Rows.uptoBulk M[i].1) → 2 * Tr.sizes L ≤ Rows.uptoBulkAll (M.map (·.1))
 | [], [], _, _ => by simp [Tr.sizes, Rows.uptoBulkAll]
 | [], _ :: _, h, _ => by simp at h
 | _ :: _, [], h, _ => by simp at h
 | t :: L, x :: M, h, hb => by
  have h0 := hb 0 (by simp) (by simp)
  have h1 := bulk_sum L M (by simpa using h) (fun i a b => by
   have := hb (i + 1) (by simpa using a) (by simpa using b)
   simpa using this)
  simp only [List.getElem_cons_zero] at h0
  simp only [Tr.sizes, zmc, Rows.uptoBulkAll]; omega
variable {enc : TypeId × Value → H} {W : World} {base : Nat} {spare : Nat → Bool} {held : Bool}
theorem R_slice {w : World} {g : Gh} {o : Own} {n : Nat} {l : List D} {c : Value} (h : R w g (.slice o n l) [c]) : ∃ (A : Option Addr) (cap : Nat) (cs : Nat → List Value), c = .slice A l.length cap ∧ (∀ (j : Nat) (h : j < l.length), R w g l[j] (cs j)) ∧ (∀ j, j < l.length → (cs j).length = n) ∧
  ∀ j, j < l.length → ∃ b off, A = some ⟨b, off, none⟩ ∧ ∀ m u, (cs j)[m]? = some u → w.cell? ⟨b, off + j * n + m, none⟩ = some u := by
 cases h with
 | slice o n l A cap cs hl hm ho hnil hA h hn hc =>
  exact ⟨A, cap, cs, rfl, h, hn, fun j hj => by
   obtain ⟨b, off, q, hh⟩ := hc j hj
   exact ⟨b, off, q, fun m u hu => (hh m u hu).2⟩⟩
set_option maxRecDepth 100000 in
/-- a tree's size by the bulk of its reading -/
theorem size_bulk (fuel : Nat) : ∀ {cs : List Value} {x : DataW H × List MemPlace} {t : Tr}, DataW.trod enc Try.prog W base spare held fuel 44 cs = some x → R W (gW W) (dN t) cs → 2 * t.size ≤ Rows.uptoBulk x.1 := by
 induction fuel using Nat.strongRecOn with
 | ind fuel ih =>
 intro cs x t h hr
 obtain ⟨ys, n, rfl, hx, hlen, hyl, hf⟩ := DataW.trod_struct Try.underlying44 h
 rw [cells_node] at hlen
 match cs, hlen with
 | [c0, c1, c2, c3], _ =>
  have h3 : DataW.trod enc Try.prog W base spare held n 42 (([c0, c1, c2, c3].drop 3).take (Try.prog.cellsOf 42)) = ys[3]? := hf 3 _ rfl
  rw [cells_nodes] at h3
  replace h3 : DataW.trod enc Try.prog W base spare held n 42 [c3] = ys[3]? := h3
  have hy4 : ys.length = 4 := by rw [hyl]; rfl
  match ys, hy4 with
  | [y0, y1, y2, y3], _ =>
   replace h3 : DataW.trod enc Try.prog W base spare held n 42 [c3] = some y3 := h3
   have hx1 : x.1 = .agg [y0.1, y1.1, y2.1, y3.1] := by rw [hx]; rfl
   rw [hx1]
   have b0 := bulk_one y0.1
   have b1 := bulk_one y1.1
   have b2 := bulk_one y2.1
   have b3 := bulk_one y3.1
   rw [dN_eq] at hr
   have hr3 := (R_agg_at hr 3 (by simp)).2
   simp only [List.getElem_cons_succ, List.getElem_cons_zero] at hr3
   obtain ⟨A, cap, cs', hc3, k1, k2, k3⟩ := R_slice hr3
   rw [zlm] at hc3 k2 k3
   have hsz : t.size = 1 + Tr.sizes t.kids := by cases t; simp only [Tr.size, Tr.kids]; try omega
   suffices hq : 2 * Tr.sizes t.kids ≤ Rows.uptoBulk y3.1 by
    simp only [Rows.uptoBulk, Rows.uptoBulkAll]; omega
   rcases DataW.trod_slice Try.underlying42 h3 with ⟨e3, _⟩ | ⟨a, len, cap', elems, rest, n', rfl, e3, hy3, hba, hl, hm, hel, hat, _, _⟩
   ·simp only [List.cons.injEq, and_true] at e3
    rw [e3, Value.slice.injEq] at hc3
    have : t.kids = [] := List.length_eq_zero_iff.1 hc3.2.1.symm
    rw [this]; simp only [Tr.sizes]; omega
   ·simp only [List.cons.injEq, and_true] at e3
    rw [e3, Value.slice.injEq] at hc3
    obtain ⟨hA, hln, _⟩ := hc3
    have hs := bulk_sum t.kids elems (by omega) (fun i hi hi' => by
     have hb := hat i (by omega)
     rw [cells_node] at hb
     rw [List.getElem?_eq_getElem hi', Option.bind_eq_some_iff] at hb
     obtain ⟨cq, hc, ht⟩ := hb
     obtain ⟨_, hcl, hcell⟩ := World.cells?_some hc
     have r1 := k1 i (by rw [zlm]; exact hi)
     rw [List.getElem_map] at r1
     obtain ⟨b, off, q1, q2⟩ := k3 i hi
     rw [← hA, Option.some.injEq] at q1
     subst q1
     have hne : (t.kids.map dN).isEmpty = false := by cases hk : t.kids with | nil => rw [hk] at hi; simp at hi | cons _ _ => rfl
     have l4 := k2 i hi
     rw [hne] at l4 q2
     simp only [zft, if_false] at l4 q2
     have e : ∀ o q, (Addr.add ⟨b, o, none⟩ q) = ⟨b, o + q, none⟩ := fun o q => by
      unfold Addr.add
      split
      ·rename_i hq; subst hq; rfl
      ·rfl
     have hcs : cq = cs' i := by
      refine List.ext_getElem (by omega) fun m h1 h2 => ?_
      have w1 := hcell m (by omega)
      have w2 := q2 m _ (List.getElem?_eq_getElem h2)
      rw [e, e] at w1
      rw [w2, List.getElem?_eq_getElem h1, Option.some.injEq] at w1
      exact w1.symm
     subst hcs
     exact ih n' (by omega) ht r1)
    rw [hy3]
    simp only [Rows.uptoBulk]; omega
theorem node_bulk {v : Value} {d : DataW H} {p : List MemPlace} {t : Tr} (h : DataW.Trod enc Try.prog W base spare held 44 v d p) (hg : val W (gW W) (dN t) v) : 2 * t.size ≤ Rows.uptoBulk d := by
 obtain ⟨fuel, hf⟩ := h
 exact size_bulk fuel hf (val1.val_cells (hg.to1 (dN_good t)))
end

end Go.Proofs.Ythgdibdapjaljaa
