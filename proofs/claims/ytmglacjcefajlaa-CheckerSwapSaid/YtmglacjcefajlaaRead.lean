import Derived.Test.YtmglacjcefajlaaRows
import Derived.Test.YtmglacjcefajlaaBA
import Derived.ProofKit
import Derived.Carry
/- An argument that reads as a node is a tree in memory; the law's last step. -/
namespace Go.Proofs.Ytmglacjcefajlaa
open Go.ChangeShapes Go.WideShapes Go.ChangeAt Go.RowKit

theorem prog_own : ownKnob Try.prog.godebug = none := by kernel_rfl
theorem prog_laidOut : laidOutB Try.prog = true := by kernel_rfl
section
variable {H : Type} {enc : TypeId × Value → H} {W : World} {base : Nat} {spare : Nat → Bool} {held : Bool}

theorem wf_u8 {n : Int} (h : (Lit.int .u8 n).wf = true) : 0 ≤ n ∧ n ≤ 255 := by
 simp only [Lit.wf, Bool.and_eq_true, decide_eq_true_eq] at h
 exact h
theorem wf_i64 {n : Int} (h : (Lit.int .i64 n).wf = true) : -9223372036854775808 ≤ n ∧ n ≤ 9223372036854775807 := by
 simp only [Lit.wf, Bool.and_eq_true, decide_eq_true_eq] at h
 exact h

set_option maxRecDepth 100000 in
/-- the arguments read on as they did -/
theorem args_stay {W W' : World} (hb : Below W.heap.size W W') : ∀ {ts : List TypeId} {vs : List Value} {ds : List (DataW H)} {ps : List MemPlace}, (∀ t ∈ ts, Try.prog.readableRec t = true ∧ t < Try.prog.types.size) →
  DataW.TrodAll enc Try.prog W 0 (fun _ => true) true ts vs ds ps → (∀ x ∈ ps, x.block < W.heap.size) → DataW.TrodAll enc Try.prog W' 0 (fun b => decide (b < W.heap.size)) true ts vs ds ps
 | [], [], [], _, _, h, _ => h
 | t :: ts, v :: vs, d :: ds, _, ht, h, hlt => by
  obtain ⟨p, q, h1, h2, rfl⟩ := h
  obtain ⟨a, b⟩ := ht t List.mem_cons_self
  exact ⟨p, q, Below.trod prog_laidOut a b h1 hb (fun x hx => hlt x (List.mem_append_left _ hx)), args_stay hb (fun t h => ht t (List.mem_cons_of_mem _ h)) h2 (fun x hx => hlt x (List.mem_append_right _ hx)), rfl⟩
 | [], _ :: _, _, _, _, h, _ => h.elim
 | [], [], _ :: _, _, _, h, _ => h.elim
 | _ :: _, [], _, _, _, h, _ => h.elim
 | _ :: _, _ :: _, [], _, _, h, _ => h.elim

set_option maxRecDepth 100000 in
/-- a law's last step: it answered true, and nothing old has turned -/
theorem law_post {f : Func} {s : ChangeSpec} {W W' : World} {args : Array Value} {ds gs : List (DataW H)} {before : List MemPlace}
  (hW : DataW.Whole enc Try.prog f.params.toList s.vars false W args.toList ds gs before) (hv : s.vars = []) (hr : f.resultTypes = #[4]) (ht : ∀ t ∈ f.params.toList, Try.prog.readableRec t = true ∧ t < Try.prog.types.size)
  (hfn : s.fn H ds = { results := [.lit (.bool true)], args := ds }) (hb : Below W.heap.size W W') : s.post enc Try.prog f false true false false W args (.bool true) W' := by
 have hlt := hW.lt
 obtain ⟨p, q, hA, hV, rfl, hz, hn⟩ := id hW
 rw [hv] at hV
 obtain ⟨rfl, rfl⟩ := trodVars_none hV
 refine ⟨ds, [], p ++ [], [], p, [], hW, ?_, ?_, ?_, hb.frame _, fun e => by cases e⟩
 ·rw [List.append_nil, hfn, hr]
  exact trodAll_mk1 ⟨1, by simp [DataW.trod, Value.cells, Try.underlying4]⟩
 ·rw [List.append_nil, hfn]
  exact args_stay hb ht hA (fun x hx => hlt x (List.mem_append_left _ hx))
 ·rw [hv, List.append_nil, hfn]
  exact rfl
end

end Go.Proofs.Ytmglacjcefajlaa
