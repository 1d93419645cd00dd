/- An argument that reads as a node is a tree in memory; the law's last step. -/
import Derived.Test.YtkngdmilgfgclaaRows
import Derived.Test.YtkngdmilgfgclaaTree
import Derived.ProofKit
import Derived.Carry
namespace Go.Proofs.Ytkngdmilgfgclaa
open Go.ChangeShapes Go.WideShapes Go.ChangeAt Go.RowKit

theorem prog_own : ownKnob Try.prog.godebug = none := by kernel_rfl
theorem prog_laidOut : laidOutB Try.prog = true := by kernel_rfl
theorem cells_node : Try.prog.cellsOf 24 = 4 := by kernel_rfl
theorem cells_u8 : Try.prog.cellsOf 5 = 1 := by kernel_rfl
theorem cells_int : Try.prog.cellsOf 3 = 1 := by kernel_rfl
theorem cells_string : Try.prog.cellsOf 9 = 1 := by kernel_rfl
theorem cells_nodes : Try.prog.cellsOf 22 = 1 := by kernel_rfl

section
variable {H : Type} {enc : TypeId × Value → H} {W : World} {base : Nat} {spare : Nat → Bool} {held : Bool}

theorem wf_u8 {n : Int} (h : (Lit.int .u8 n).wf = true) : 0 ≤ n ∧ n ≤ 255 := by
  simp only [Lit.wf, Bool.and_eq_true, decide_eq_true_eq] at h
  exact h
theorem wf_i64 {n : Int} (h : (Lit.int .i64 n).wf = true) : -9223372036854775808 ≤ n ∧ n ≤ 9223372036854775807 := by
  simp only [Lit.wf, Bool.and_eq_true, decide_eq_true_eq] at h
  exact h

/-- the cells of a slice of nodes, whatever the elements' readings, given that each element is a tree -/
theorem row_of {a : Addr} {len : Nat} (T : Nat → Tr) (h : ∀ i, i < len → ∃ c0 c1 c2 c3, W.cell? (a.add (i * 4)) = some c0 ∧ W.cell? ((a.add (i * 4)).add 1) = some c1 ∧ W.cell? ((a.add (i * 4)).add 2) = some c2 ∧ W.cell? ((a.add (i * 4)).add 3) = some c3 ∧ Rep W W.heap.size (T i) (.agg #[c0, c1, c2, c3])) :
    RepRow W W.heap.size ((List.range len).map T) (some a) 0 := by
  refine repRow_of fun j hj => ?_
  have hj' : j < len := by simpa using hj
  obtain ⟨d0, _, _, _, g0, _⟩ := h 0 (by omega)
  obtain ⟨b, off, spot⟩ := a
  have hs : spot = none := by simpa [Addr.add] using World.cell?_spot g0
  subst hs
  obtain ⟨c0, c1, c2, c3, h0, h1, h2, h3, hr⟩ := h j hj'
  have e : ∀ o q, (Addr.add ⟨b, o, none⟩ q) = ⟨b, o + q, none⟩ := fun o q => by
    unfold Addr.add
    split
    · rename_i hq; subst hq; rfl
    · rfl
  rw [e] at h0 h1 h2 h3
  rw [e] at h1 h2 h3
  have hb : b < W.heap.size := by
    unfold World.cell? at h0
    simp only at h0
    rcases Nat.lt_or_ge b W.heap.size with hl | hl
    · exact hl
    · rw [Array.getElem?_eq_none hl] at h0; cases h0
  refine ⟨b, off, c0, c1, c2, c3, rfl, hb, by simpa using h0, by simpa using h1, by simpa using h2, by simpa using h3, ?_⟩
  simpa using hr

theorem tree_of (fuel : Nat) : ∀ {cs : List Value} {x : DataW H × List MemPlace}, DataW.trod enc Try.prog W base spare held fuel 24 cs = some x →
    ∃ (c0 c1 c2 c3 : Value) (t : Tr), cs = [c0, c1, c2, c3] ∧ Rep W W.heap.size t (.agg #[c0, c1, c2, c3]) := by
  induction fuel using Nat.strongRecOn with
  | ind fuel ih =>
  intro cs x h
  obtain ⟨ys, n, rfl, _, hlen, hyl, hf⟩ := DataW.trod_struct Try.underlying24 h
  rw [cells_node] at hlen
  match cs, hlen with
  | [c0, c1, c2, c3], _ =>
    have h0 : DataW.trod enc Try.prog W base spare held n 5 (([c0, c1, c2, c3].drop 0).take (Try.prog.cellsOf 5)) = ys[0]? := hf 0 _ rfl
    rw [cells_u8] at h0
    replace h0 : DataW.trod enc Try.prog W base spare held n 5 [c0] = ys[0]? := h0
    have h1 : DataW.trod enc Try.prog W base spare held n 3 (([c0, c1, c2, c3].drop 1).take (Try.prog.cellsOf 3)) = ys[1]? := hf 1 _ rfl
    rw [cells_int] at h1
    replace h1 : DataW.trod enc Try.prog W base spare held n 3 [c1] = ys[1]? := h1
    have h2 : DataW.trod enc Try.prog W base spare held n 9 (([c0, c1, c2, c3].drop 2).take (Try.prog.cellsOf 9)) = ys[2]? := hf 2 _ rfl
    rw [cells_string] at h2
    replace h2 : DataW.trod enc Try.prog W base spare held n 9 [c2] = ys[2]? := h2
    have h3 : DataW.trod enc Try.prog W base spare held n 22 (([c0, c1, c2, c3].drop 3).take (Try.prog.cellsOf 22)) = ys[3]? := hf 3 _ rfl
    rw [cells_nodes] at h3
    replace h3 : DataW.trod enc Try.prog W base spare held n 22 [c3] = ys[3]? := h3
    have hy : ∀ j, j < 4 → ys[j]? = some (ys[j]?.getD (.nil, [])) := fun j hj => by
      have : j < ys.length := by rw [hyl]; exact hj
      simp [this]
    rw [hy _ (by omega)] at h0 h1 h2 h3
    obtain ⟨k, e0, _, w0⟩ := DataW.trod_int Try.underlying5 h0
    obtain ⟨m, e1, _, w1⟩ := DataW.trod_int Try.underlying3 h1
    obtain ⟨s, e2, _, w2⟩ := DataW.trod_string Try.underlying9 h2
    simp only [List.cons.injEq, and_true] at e0 e1 e2
    subst e0 e1 e2
    obtain ⟨k0, k1⟩ := wf_u8 w0
    obtain ⟨n0, n1⟩ := wf_i64 w1
    rcases DataW.trod_slice Try.underlying22 h3 with ⟨e3, _⟩ | ⟨a, len, cap, elems, rest, n', rfl, e3, _, hba, hl, hm, hel, hat, _, _⟩
    · simp only [List.cons.injEq, and_true] at e3
      subst e3
      refine ⟨_, _, _, _, .mk k m s [], rfl, ?_⟩
      simp only [Rep]
      exact ⟨none, 0, rfl, ⟨k0, k1, n0, n1, w2, Nat.le_refl _, by omega⟩, by simp only [RepRow]⟩
    · simp only [List.cons.injEq, and_true] at e3
      subst e3
      have hk : ∀ i, ∃ t : Tr, i < len → ∃ c0 c1 c2 c3, W.cell? (a.add (i * 4)) = some c0 ∧ W.cell? ((a.add (i * 4)).add 1) = some c1 ∧ W.cell? ((a.add (i * 4)).add 2) = some c2 ∧ W.cell? ((a.add (i * 4)).add 3) = some c3 ∧ Rep W W.heap.size t (.agg #[c0, c1, c2, c3]) := by
        intro i
        by_cases hi : i < len
        · have hb := hat i hi
          rw [cells_node] at hb
          have hs : elems[i]? = some elems[i] := List.getElem?_eq_getElem (by omega)
          rw [hs, Option.bind_eq_some_iff] at hb
          obtain ⟨cs', hc, ht⟩ := hb
          obtain ⟨c0, c1, c2, c3, t, rfl, hr⟩ := ih n' (by omega) ht
          obtain ⟨_, _, hcell⟩ := World.cells?_some hc
          have q0 := hcell 0 (by omega)
          have q1 := hcell 1 (by omega)
          have q2 := hcell 2 (by omega)
          have q3 := hcell 3 (by omega)
          exact ⟨t, fun _ => ⟨c0, c1, c2, c3, q0, q1, q2, q3, hr⟩⟩
        · exact ⟨.mk 0 0 ⟨#[]⟩ [], fun e => absurd e hi⟩
      obtain ⟨T, hT⟩ := Classical.axiomOfChoice hk
      refine ⟨_, _, _, _, .mk k m s ((List.range len).map T), rfl, ?_⟩
      simp only [Rep]
      exact ⟨some a, cap, by simp [nodeV], ⟨k0, k1, n0, n1, w2, by simpa using hl, hm⟩, row_of T hT⟩

/-- an argument of the type api.Node -/
theorem node_arg {r : Reach} {b0 : Nat} {v : Value} {d : DataW H} {p : List MemPlace} (hv : Value.okWide Try.prog W r b0 24 v) (h : DataW.Trod enc Try.prog W base spare held 24 v d p) : ∃ t, Rep W W.heap.size t v := by
  obtain ⟨cs, rfl, _⟩ := okWide_struct Try.underlying24 hv
  obtain ⟨fuel, hf⟩ := h
  obtain ⟨c0, c1, c2, c3, t, hcs, hr⟩ := tree_of fuel hf
  refine ⟨t, ?_⟩
  have : cs = #[c0, c1, c2, c3] := by
    obtain ⟨l⟩ := cs
    simp only [Value.cells] at hcs
    simp [hcs]
  rw [this]
  exact hr

/-- the arguments read on as they did -/
theorem args_stay {W W' : World} (hb : Below W.heap.size W W') : ∀ {ts : List TypeId} {vs : List Value} {ds : List (DataW H)} {ps : List MemPlace}, (∀ t ∈ ts, Try.prog.readableRec t = true ∧ t < Try.prog.types.size) →
    DataW.TrodAll enc Try.prog W 0 (fun _ => true) true ts vs ds ps → (∀ x ∈ ps, x.block < W.heap.size) → DataW.TrodAll enc Try.prog W' 0 (fun b => decide (b < W.heap.size)) true ts vs ds ps
  | [], [], [], _, _, h, _ => h
  | t :: ts, v :: vs, d :: ds, _, ht, h, hlt => by
    obtain ⟨p, q, h1, h2, rfl⟩ := h
    obtain ⟨a, b⟩ := ht t List.mem_cons_self
    exact ⟨p, q, Below.trod prog_laidOut a b h1 hb (fun x hx => hlt x (List.mem_append_left _ hx)), args_stay hb (fun t h => ht t (List.mem_cons_of_mem _ h)) h2 (fun x hx => hlt x (List.mem_append_right _ hx)), rfl⟩
  | [], _ :: _, _, _, _, h, _ => h.elim
  | [], [], _ :: _, _, _, h, _ => h.elim
  | _ :: _, [], _, _, _, h, _ => h.elim
  | _ :: _, _ :: _, [], _, _, h, _ => h.elim

/-- a law's last step: it answered true, and nothing old has turned -/
theorem law_post {f : Func} {s : ChangeSpec} {W W' : World} {args : Array Value} {ds gs : List (DataW H)} {before : List MemPlace}
    (hW : DataW.Whole enc Try.prog f.params.toList s.vars false W args.toList ds gs before) (hv : s.vars = []) (hr : f.resultTypes = #[4]) (ht : ∀ t ∈ f.params.toList, Try.prog.readableRec t = true ∧ t < Try.prog.types.size)
    (hfn : s.fn H ds = { results := [.lit (.bool true)], args := ds }) (hb : Below W.heap.size W W') : s.post enc Try.prog f false true false false W args (.bool true) W' := by
  have hlt := hW.lt
  obtain ⟨p, q, hA, hV, rfl, hz, hn⟩ := id hW
  rw [hv] at hV
  obtain ⟨rfl, rfl⟩ := trodVars_none hV
  refine ⟨ds, [], p ++ [], [], p, [], hW, ?_, ?_, ?_, hb.frame _, fun e => by cases e⟩
  · rw [List.append_nil, hfn, hr]
    exact trodAll_mk1 ⟨1, by simp [DataW.trod, Value.cells, Try.underlying4]⟩
  · rw [List.append_nil, hfn]
    exact args_stay hb ht hA (fun x hx => hlt x (List.mem_append_left _ hx))
  · rw [hv, List.append_nil, hfn]
    exact rfl
end

end Go.Proofs.Ytkngdmilgfgclaa
