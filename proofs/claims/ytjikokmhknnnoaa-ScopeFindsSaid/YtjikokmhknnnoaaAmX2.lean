/- Calls that reach the caller's boxes. Over any program. -/
import Derived.Test.YtjikokmhknnnoaaAmX
namespace Go.Proofs.Ytjikokmhknnnoaa
open Go.RowKit

def nthD : List D → Nat → D
  | [], _ => .undef
  | d :: _, 0 => d
  | _ :: r, k + 1 => nthD r k
/-- what lies in a slot, whatever it is -/
def slotOf (σ : St) (k : Nat) : D := nthD σ.fr k
theorem bq_tt : (true == true) = true := rfl
theorem bq_tf : (true == false) = false := rfl
theorem bq_ft : (false == true) = false := rfl
theorem bq_ff : (false == false) = true := rfl
section
variable {E : Env} {Q : Ex → St → Prop} {σ : St}
theorem X_rc {id : Nat} {ops : List Oper} (h : ∀ R : Option St → Prop, (∀ σ', Q .normal σ' → R (some σ')) → R (aops E.P (cal E) ops ops σ)) : X E (.region id ops.toArray false) σ Q := by
  obtain ⟨σ', h1, h2⟩ := h (fun o => ∃ σ', o = some σ' ∧ Q .normal σ') fun σ' hq => ⟨σ', rfl, hq⟩
  exact ⟨_, _, run_region E h1, h2⟩
theorem cal_pure {k : Nat} {a : List D} {d : D} (h : fn E k a = some d) (σ : St) : cal E k a σ = some (d, σ) := pcall_cal E k a σ _ (by unfold pcall; rw [h]; rfl)
/-- how a body ends that may have written to the boxes of its caller -/
def EndsB (E : Env) (f : Func) (σ0 : St) (d : D) (bx : List (List D)) (nx : Nat) (lv : List Nat) : Ex → St → Prop := fun e σ => (e = .normal ∨ e = .ret) ∧ resD E.P f σ = some d ∧ σ0.bx.length ≤ σ.bx.length ∧ σ.bx.take σ0.bx.length = bx ∧ σ.nx = nx ∧ σ.lv = lv
theorem cal_X {k : Nat} {args : List D} {f : Func} {body : Code} {d : D} {bx : List (List D)} {nx : Nat} {lv : List Nat} (hfs : E.fs k = true) (hf : E.P.funcs[k]? = some f) (hb : f.body = some body) (hp : plain args = false) (hu : d.under σ.bx.length = true) (hbx : bx.all (D.unders σ.bx.length) = true)
    (h : X E body (enterSt f args σ.bx σ.nx σ.lv) (EndsB E f σ d bx nx lv)) : cal E k args σ = some (d, { σ with bx := bx, nx := nx, lv := lv }) := by
  obtain ⟨e, σ1, h1, he, hr, hl, ht, hn, hv⟩ := h
  unfold cal callWith
  rw [hp]
  have : bodyWith E (run E) k args σ.bx σ.nx σ.lv = some (d, σ1) := by
    unfold bodyWith
    rw [if_pos hfs, hf]
    simp only [hb, h1]
    rcases he with rfl | rfl <;> simp [hr]
  simp only [this, Bool.false_eq_true, if_false]
  rw [ht, if_pos ⟨hu, hl, hbx⟩, hn, hv]

/-- boxes that point nowhere -/
def Free (B : List (List D)) : Prop := ∀ cs ∈ B, ∀ m, D.unders m cs = true
theorem Free.all {B : List (List D)} (h : Free B) (m : Nat) : B.all (D.unders m) = true := List.all_eq_true.2 fun cs hc => h cs hc m
theorem Free.snoc {B : List (List D)} (h : Free B) {c : List D} (hc : ∀ m, D.unders m c = true) : Free (B ++ [c]) := by
  intro cs hcs m
  rcases List.mem_append.1 hcs with q | q
  · exact h cs q m
  · rw [List.mem_singleton.1 q]; exact hc m
theorem Free.set {B : List (List D)} (h : Free B) {c : List D} (hc : ∀ m, D.unders m c = true) (b : Nat) : Free (B.set b c) := by
  intro cs hcs m
  rcases List.mem_or_eq_of_mem_set hcs with q | q
  · exact h cs q m
  · rw [q]; exact hc m
theorem snoc_get {α : Type} {B : List α} {b : Nat} {x : α} (h : B[b]? = some x) (l : List α) : (B ++ l)[b]? = some x := by
  obtain ⟨hb, _⟩ := List.getElem?_eq_some_iff.1 h
  rw [List.getElem?_append_left hb]; exact h
end

end Go.Proofs.Ytjikokmhknnnoaa
