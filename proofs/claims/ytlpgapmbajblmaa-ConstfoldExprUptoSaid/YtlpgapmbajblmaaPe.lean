/- For every node whose reading is of bulk at most 1048576 the law ConstfoldExpr answers true, and they read behind the call as they did before. Conditions: that bound, which the statement itself names. -/
import Derived.Test.YtlpgapmbajblmaaRead
import Derived.Test.YtlpgapmbajblmaaLawE
import Derived.JoinedCond
namespace Go.Proofs.Ytlpgapmbajblmaa
open Go.ChangeShapes Go.WideShapes Go.ChangeAt Go.RowKit

mutual
theorem Tr.names_mono {M M' : Nat} (h : M ≤ M') : ∀ (t : Tr), t.names M → t.names M'
  | .mk _ _ _ c, q => by
    simp only [Tr.names] at q ⊢
    exact ⟨by omega, Tr.namesL_mono h c q.2⟩
theorem Tr.namesL_mono {M M' : Nat} (h : M ≤ M') : ∀ (c : List Tr), Tr.namesL M c → Tr.namesL M' c
  | [], _ => by simp [Tr.namesL]
  | t :: r, q => by
    simp only [Tr.namesL] at q ⊢
    exact ⟨Tr.names_mono h t q.1, Tr.namesL_mono h r q.2⟩
end
theorem namesL_of {M : Nat} : ∀ {c : List Tr}, (∀ t ∈ c, t.names M) → Tr.namesL M c
  | [], _ => by simp [Tr.namesL]
  | t :: r, h => by
    simp only [Tr.namesL]
    exact ⟨h t (by simp), namesL_of fun u hu => h u (by simp [hu])⟩
theorem bulkAll_at {H : Type} : ∀ (l : List (DataW H)) (i : Nat) (h : i < l.length), Rows.uptoBulk l[i] ≤ Rows.uptoBulkAll l
  | [], i, h => absurd h (Nat.not_lt_zero _)
  | d :: r, 0, _ => by simp [Rows.uptoBulkAll]
  | d :: r, i + 1, h => by
    have := bulkAll_at r i (by simpa using h)
    simp only [Rows.uptoBulkAll, List.getElem_cons_succ]; omega
theorem bulk_four {H : Type} {ys : List (DataW H × List MemPlace)} (h : ys.length = 4) : Rows.uptoBulkAll (ys.map (·.1)) = Rows.uptoBulk (ys[0]?.getD (.nil, [])).1 + Rows.uptoBulk (ys[1]?.getD (.nil, [])).1 + Rows.uptoBulk (ys[2]?.getD (.nil, [])).1 + Rows.uptoBulk (ys[3]?.getD (.nil, [])).1 := by
  match ys, h with
  | [y0, y1, y2, y3], _ => simp [Rows.uptoBulkAll]; omega

theorem cells_node : Try.prog.cellsOf 24 = 4 := by kernel_rfl
theorem cells_u8 : Try.prog.cellsOf 5 = 1 := by kernel_rfl
theorem cells_int : Try.prog.cellsOf 3 = 1 := by kernel_rfl
theorem cells_string : Try.prog.cellsOf 9 = 1 := by kernel_rfl
theorem cells_nodes : Try.prog.cellsOf 22 = 1 := by kernel_rfl

section
variable {H : Type} {enc : TypeId × Value → H} {W : World} {base : Nat} {spare : Nat → Bool} {held : Bool}
/-- the cells of a slice of nodes, whatever the elements' readings, given that each element is a tree -/
theorem row_of {a : Addr} {len : Nat} (T : Nat → Tr) (h : ∀ i, i < len → ∃ c0 c1 c2 c3, W.cell? (a.add (i * 4)) = some c0 ∧ W.cell? ((a.add (i * 4)).add 1) = some c1 ∧ W.cell? ((a.add (i * 4)).add 2) = some c2 ∧ W.cell? ((a.add (i * 4)).add 3) = some c3 ∧ Rep W W.heap.size (T i) (.agg #[c0, c1, c2, c3])) :
    RepRow W W.heap.size ((List.range len).map T) (some a) 0 := by
  refine repRow_of fun j hj => ?_
  have hj' : j < len := by simpa using hj
  obtain ⟨d0, _, _, _, g0, _⟩ := h 0 (by omega)
  obtain ⟨b, off, spot⟩ := a
  have hs : spot = none := by simpa [Addr.add] using World.cell?_spot g0
  subst hs
  obtain ⟨c0, c1, c2, c3, h0, h1, h2, h3, hr⟩ := h j hj'
  have e : ∀ o q, (Addr.add ⟨b, o, none⟩ q) = ⟨b, o + q, none⟩ := fun o q => by
    unfold Addr.add
    split
    · rename_i hq; subst hq; rfl
    · rfl
  rw [e] at h0 h1 h2 h3
  rw [e] at h1 h2 h3
  have hb : b < W.heap.size := by
    unfold World.cell? at h0
    simp only at h0
    rcases Nat.lt_or_ge b W.heap.size with hl | hl
    · exact hl
    · rw [Array.getElem?_eq_none hl] at h0; cases h0
  refine ⟨b, off, c0, c1, c2, c3, rfl, hb, by simpa using h0, by simpa using h1, by simpa using h2, by simpa using h3, ?_⟩
  simpa using hr

set_option maxRecDepth 100000 in
theorem tree_bulk (fuel : Nat) : ∀ {cs : List Value} {x : DataW H × List MemPlace}, DataW.trod enc Try.prog W base spare held fuel 24 cs = some x →
    ∃ (c0 c1 c2 c3 : Value) (t : Tr), cs = [c0, c1, c2, c3] ∧ Rep W W.heap.size t (.agg #[c0, c1, c2, c3]) ∧ t.names (Rows.uptoBulk x.1) := by
  induction fuel using Nat.strongRecOn with
  | ind fuel ih =>
  intro cs x h
  obtain ⟨ys, n, rfl, hx, hlen, hyl, hf⟩ := DataW.trod_struct Try.underlying24 h
  rw [cells_node] at hlen
  match cs, hlen with
  | [c0, c1, c2, c3], _ =>
    have h0 : DataW.trod enc Try.prog W base spare held n 5 (([c0, c1, c2, c3].drop 0).take (Try.prog.cellsOf 5)) = ys[0]? := hf 0 _ rfl
    rw [cells_u8] at h0
    replace h0 : DataW.trod enc Try.prog W base spare held n 5 [c0] = ys[0]? := h0
    have h1 : DataW.trod enc Try.prog W base spare held n 3 (([c0, c1, c2, c3].drop 1).take (Try.prog.cellsOf 3)) = ys[1]? := hf 1 _ rfl
    rw [cells_int] at h1
    replace h1 : DataW.trod enc Try.prog W base spare held n 3 [c1] = ys[1]? := h1
    have h2 : DataW.trod enc Try.prog W base spare held n 9 (([c0, c1, c2, c3].drop 2).take (Try.prog.cellsOf 9)) = ys[2]? := hf 2 _ rfl
    rw [cells_string] at h2
    replace h2 : DataW.trod enc Try.prog W base spare held n 9 [c2] = ys[2]? := h2
    have h3 : DataW.trod enc Try.prog W base spare held n 22 (([c0, c1, c2, c3].drop 3).take (Try.prog.cellsOf 22)) = ys[3]? := hf 3 _ rfl
    rw [cells_nodes] at h3
    replace h3 : DataW.trod enc Try.prog W base spare held n 22 [c3] = ys[3]? := h3
    have hy : ∀ j, j < 4 → ys[j]? = some (ys[j]?.getD (.nil, [])) := fun j hj => by
      have : j < ys.length := by rw [hyl]; exact hj
      simp [this]
    rw [hy _ (by omega)] at h0 h1 h2 h3
    obtain ⟨k, e0, _, w0⟩ := DataW.trod_int Try.underlying5 h0
    obtain ⟨m, e1, _, w1⟩ := DataW.trod_int Try.underlying3 h1
    obtain ⟨s, e2, z2, w2⟩ := DataW.trod_string Try.underlying9 h2
    simp only [List.cons.injEq, and_true] at e0 e1 e2
    subst e0 e1 e2
    obtain ⟨k0, k1⟩ := wf_u8 w0
    obtain ⟨n0, n1⟩ := wf_i64 w1
    have hy4 : ys.length = 4 := by rw [hyl]; rfl
    have hsum := bulk_four hy4
    have hx1 : x.1 = .agg (ys.map (·.1)) := by rw [hx]
    have hs2 : s.size ≤ Rows.uptoBulk x.1 := by
      rw [hx1]
      simp only [Rows.uptoBulk]
      rw [hsum, z2]
      simp only [Rows.uptoBulk, Array.length_toList]
      have : s.data.size = s.size := rfl
      omega
    rcases DataW.trod_slice Try.underlying22 h3 with ⟨e3, _⟩ | ⟨a, len, cap, elems, rest, n', rfl, e3, z3, hba, hl, hm, hel, hat, _, _⟩
    · simp only [List.cons.injEq, and_true] at e3
      subst e3
      refine ⟨_, _, _, _, .mk k m s [], rfl, ?_, by simp only [Tr.names, Tr.namesL, and_true]; exact hs2⟩
      simp only [Rep]
      exact ⟨none, 0, rfl, ⟨k0, k1, n0, n1, w2, Nat.le_refl _, by omega⟩, by simp only [RepRow]⟩
    · simp only [List.cons.injEq, and_true] at e3
      subst e3
      have hk : ∀ i, ∃ t : Tr, i < len → ∃ c0 c1 c2 c3, W.cell? (a.add (i * 4)) = some c0 ∧ W.cell? ((a.add (i * 4)).add 1) = some c1 ∧ W.cell? ((a.add (i * 4)).add 2) = some c2 ∧ W.cell? ((a.add (i * 4)).add 3) = some c3 ∧ Rep W W.heap.size t (.agg #[c0, c1, c2, c3]) ∧ ∀ (hi : i < elems.length), t.names (Rows.uptoBulk elems[i].1) := by
        intro i
        by_cases hi : i < len
        · have hb := hat i hi
          rw [cells_node] at hb
          have hs : elems[i]? = some elems[i] := List.getElem?_eq_getElem (by omega)
          rw [hs, Option.bind_eq_some_iff] at hb
          obtain ⟨cs', hc, ht⟩ := hb
          obtain ⟨c0, c1, c2, c3, t, rfl, hr, hnm⟩ := ih n' (by omega) ht
          obtain ⟨_, _, hcell⟩ := World.cells?_some hc
          have q0 := hcell 0 (by omega)
          have q1 := hcell 1 (by omega)
          have q2 := hcell 2 (by omega)
          have q3 := hcell 3 (by omega)
          exact ⟨t, fun _ => ⟨c0, c1, c2, c3, q0, q1, q2, q3, hr, fun _ => hnm⟩⟩
        · exact ⟨.mk 0 0 ⟨#[]⟩ [], fun e => absurd e hi⟩
      obtain ⟨T, hT⟩ := Classical.axiomOfChoice hk
      refine ⟨_, _, _, _, .mk k m s ((List.range len).map T), rfl, ?_, ?_⟩
      rotate_left
      · simp only [Tr.names]
        refine ⟨hs2, namesL_of fun u hu => ?_⟩
        obtain ⟨i, hi, rfl⟩ := List.mem_map.1 hu
        rw [List.mem_range] at hi
        obtain ⟨_, _, _, _, _, _, _, _, _, hq⟩ := hT i hi
        refine Tr.names_mono ?_ _ (hq (by omega))
        have hb := bulkAll_at (elems.map (·.1)) i (by simpa using (show i < elems.length by omega))
        rw [hx1]
        simp only [Rows.uptoBulk]
        rw [hsum, z3]
        simp only [Rows.uptoBulk]
        simp only [List.getElem_map] at hb
        omega
      simp only [Rep]
      exact ⟨some a, cap, by simp [nodeV], ⟨k0, k1, n0, n1, w2, by simpa using hl, hm⟩, row_of T (fun i hi => let ⟨c0, c1, c2, c3, q0, q1, q2, q3, hr, _⟩ := hT i hi; ⟨c0, c1, c2, c3, q0, q1, q2, q3, hr⟩)⟩

set_option maxRecDepth 100000 in

theorem node_bulk {r : Reach} {b0 : Nat} {v : Value} {d : DataW H} {p : List MemPlace} (hv : Value.okWide Try.prog W r b0 24 v) (h : DataW.Trod enc Try.prog W base spare held 24 v d p) : ∃ t, Rep W W.heap.size t v ∧ t.names (Rows.uptoBulk d) := by
  obtain ⟨cs, rfl, _⟩ := okWide_struct Try.underlying24 hv
  obtain ⟨fuel, hf⟩ := h
  obtain ⟨c0, c1, c2, c3, t, hcs, hr, hn⟩ := tree_bulk fuel hf
  refine ⟨t, ?_, hn⟩
  have : cs = #[c0, c1, c2, c3] := by
    obtain ⟨l⟩ := cs
    simp only [Value.cells] at hcs
    simp [hcs]
  rw [this]
  exact hr
end

set_option maxRecDepth 100000 in
theorem constfoldExpr_lifted (os : Os) (started : os.Started) (H : Type) (enc : TypeId × Value → H) (F : Stop.Interp) :
    ReturnsInHanded {} Try.checked os 4 .any ((Rows.OpenSpec.upto Rows.constfoldExprSpec).pre6 enc Try.prog Try.f4 Rows.constfoldExprUptoRow.domain false) (((Rows.OpenSpec.upto Rows.constfoldExprSpec).at F).post enc Try.prog Try.f4 false true false false) := by
  refine returnsInHanded_of_cond (C := Try.checked) (s := Rows.OpenSpec.upto Rows.constfoldExprSpec) (k := Rows.uptoSmall) rfl prog_own started (by kernel_rfl) Try.func4
    (OpenSpec.witness (enc := enc) (C := Try.checked) (s := Rows.OpenSpec.upto Rows.constfoldExprSpec) (k := Rows.uptoSmall) rfl false ⟨#[], #[.agg #[.int .u8 0, .int .i64 0, .string ⟨#[]⟩, .slice none 0 0]], []⟩ 8 (by kernel_rfl) (by kernel_rfl) (by kernel_rfl)
      (x := ([.agg [.lit (.int .u8 0), .lit (.int .i64 0), .lit (.string []), .nil]], [], [])) (by kernel_rfl) rfl (by kernel_rfl)) ?_
  intro W base args ds gs before hval0 hW _ hk _
  have hval : ∀ (j : Nat) t v, Try.f4.params[j]? = some t → args[j]? = some v → Value.okWide Try.prog W .any base t v := hval0
  have hW' : DataW.Whole enc Try.prog Try.f4.params.toList Rows.constfoldExprSpec.vars false W args.toList ds gs before := hW
  obtain ⟨p, q, hA0, hV, rfl, _, _⟩ := hW
  have hA : DataW.TrodAll enc Try.prog W 0 (fun _ => true) true Try.f4.params.toList args.toList ds p := hA0
  rw [Try.params4] at hA hval
  obtain ⟨v0, d0, rfl, rfl, h0⟩ := trodAll_one hA
  obtain ⟨t0, r0, n0⟩ := node_bulk (hval 0 24 v0 rfl rfl) h0
  have hk9 : Rows.uptoBulkAll ([d0] ++ gs) ≤ 1048576 := of_decide_eq_true hk
  simp only [List.cons_append, List.nil_append, Rows.uptoBulkAll] at hk9
  refine (constfoldExpr_any t0 v0 W r0 (Tr.names_mono (by omega) _ n0)).mono fun e W' ⟨he, hb⟩ => ?_
  subst he
  exact ⟨_, rfl, law_post hW' rfl rfl (by rw [Try.params4]; intro t ht; simp at ht; subst ht; exact ⟨by kernel_rfl, of_decide_eq_true (by kernel_rfl)⟩) rfl hb⟩

theorem constfoldExpr_holds : Rows.ConstfoldExprUptoSaid :=
  OpenClaim.holds_of_cond 4 Try.f4 rfl rfl rfl rfl rfl rfl rfl ⟨rfl, rfl, rfl, rfl, rfl⟩ rfl rfl rfl rfl rfl (by kernel_rfl) Try.func4 (by kernel_rfl)
    (of_decide_eq_true (by kernel_rfl)) (by unfold Func.isWrapper; first | (rw [if_pos (by decide +kernel)]; kernel_rfl) | (rw [if_neg (by decide +kernel)]; exact ⟨rfl, rfl⟩))
    (fun os started H enc _ F => constfoldExpr_lifted os started H enc F)

end Go.Proofs.Ytlpgapmbajblmaa
