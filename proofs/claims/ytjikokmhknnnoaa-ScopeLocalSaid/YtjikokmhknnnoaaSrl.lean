/- A region that draws its order, walked in one order: what only computes or loads is taken as soon as it may come up; what acts comes up one at a time. No program in sight. -/
import Derived.Test.YtjikokmhknnnoaaBJ
import Derived.OrdersIn
import Derived.RangeFuncNested
import Derived.OwnWalkIn
import Derived.WalkKit
namespace Go.Proofs.Ytjikokmhknnnoaa
open Go.RowKit

section
variable {F : Fence} {n : Nat} {P : Program} {ops : Array Oper} {Q : Exit → Act → World → Prop} {hd : List Nat}

/-- whatever order is picked from here on; behind an operation that is not among hd all old memory is as it was -/
def wpAnyK (F : Fence) (n : Nat) (P : Program) (ops : Array Oper) (Q : Exit → Act → World → Prop) (hd : List Nat) : Nat → Array Bool → Act → World → Prop
  | 0, listed, a, w => Region.ready .any ops listed = [] ∧ Q .normal a w
  | fuel + 1, listed, a, w =>
    (Region.ready .any ops listed = [] → Q .normal a w) ∧
    ∀ i ∈ Region.ready .any ops listed, wpOpIn F n P ops (onlyN Q) i (fun a' w' => (hd.contains i = false → Below w.heap.size w w') ∧ wpAnyK F n P ops Q hd fuel (listed.setIfInBounds i true) a' w') a w

theorem wpAnyIn_of_K : ∀ (fuel : Nat) (listed : Array Bool) (a : Act) (w : World), wpAnyK F n P ops Q hd fuel listed a w → wpAnyIn F n P .any ops (onlyN Q) fuel listed a w
  | 0, _, _, _, h => h
  | fuel + 1, _, _, _, h => ⟨h.1, fun i hi => wpOpIn_mono (fun a' w' h' => wpAnyIn_of_K fuel _ a' w' h'.2) (h.2 i hi)⟩

theorem YieldsK.of_same {o : Oper} {v : Value} {a a' : Act} {w : World} {free : Bool} (hy : YieldsK P ops o v a w free) (he : execOp a'.eval o = execOp a.eval o)
    (hw : Region.wanted o (yielded ops a'.tmps) = Region.wanted o (yielded ops a.tmps)) : YieldsK P ops o v a' w free := by
  unfold YieldsK at *
  rw [he, hw]
  exact hy
theorem wpOpIn_putK {j : Nat} {oi oj : Oper} {v : Value} {free : Bool} (hj : ops[j]? = some oj) (hap : oi.apart ops oj = true)
    (hsi : ∀ cs b, oi.op ≠ .select cs b) (hsj : ∀ cs b, oj.op ≠ .select cs b) (hdj : ∀ c, oj.op ≠ .defer c)
    {K : Act → World → Prop} {a : Act} {w : World}
    (hy : YieldsK P ops oi v a w free) (h : wpOpIn F n P ops (onlyN Q) j K (a.put oi.dst v) w) :
    wpOpIn F n P ops (onlyN Q) j (fun a' w' => YieldsK P ops oi v a' w free ∧ K (a'.put oi.dst v) w') a w := by
  obtain ⟨h1, h2, h3⟩ := Oper.apart_spec hap
  have keep : ∀ (a : Act), YieldsK P ops oi v a w free → ∀ u, YieldsK P ops oi v (a.put oj.dst u) w free := fun a hy u =>
    hy.of_same (execOp_put oi hsi a oj.dst u h3) (wanted_put oi a oj.dst u h3)
  have keepD : ∀ d, YieldsK P ops oi v { a with defers := d :: a.defers } w free := fun d => hy.of_same rfl rfl
  unfold wpOpIn at *
  simp only [hj] at *
  rw [wanted_put oj a oi.dst v h1, about_put oj w a oi.dst v h1] at h
  split
  · rename_i hw
    simp only [hw, if_true] at h
    unfold Oper.wpIn at *
    rw [about_put oj w a oi.dst v h1] at h
    refine ⟨h.1, ?_⟩
    have h := h.2
    rw [Oper.semAt_plain F _ _ hdj, execOp_put oj hsj a oi.dst v h1] at h
    rw [Oper.semAt_plain F _ _ hdj]
    generalize (execOp a.eval oj).run P w = r at *
    cases r with
    | ok x w' =>
      cases x <;> simp only [Oper.uponIn] at h ⊢
      case value u => exact ⟨keep a hy u, by rw [← Act.put_comm a v u h2]; exact h⟩
      case skip => exact ⟨keep a hy _, by rw [← Act.put_comm a v undef h2]; exact h⟩
      case defer d =>
        refine ⟨keep _ (keepD d) _, ?_⟩
        rw [← Act.put_comm _ v undef h2, ← Act.put_defers]
        exact h
      case enter f args =>
        refine ⟨h.1, CallsIn.mono h.2 fun e w'' he => ?_⟩
        cases e with
        | returned u => exact ⟨keep a hy u, by rw [← Act.put_comm a v u h2]; exact he⟩
        | panicked c => exact he
        | outgrown => exact he
      case row row args => exact ⟨h.1, RowsIn.mono h.2 fun u w'' he => ⟨keep a hy u, by rw [← Act.put_comm a v u h2]; exact he⟩⟩
      case round l f tmps assign body =>
        refine ⟨h.1, RoundIn.mono h.2 fun e w'' he => ?_⟩
        cases e with
        | returned u => exact ⟨keep a hy u, by rw [← Act.put_comm a v u h2]; exact he⟩
        | panicked c => exact he
        | outgrown => exact he
    | halt x w' =>
      cases x <;> simp only [Oper.uponIn] at h ⊢
      case panic u => exact h
  · rename_i hw
    simp only [hw] at h
    exact ⟨h.1, keep a hy _, by rw [← Act.put_comm a v undef h2]; exact h.2⟩

theorem wpAnyK_first {i : Nat} {oi : Oper} {v : Value} {free : Bool} (hfn : ∀ f, F.fn f) (hi : ops[i]? = some oi) (hsel : ∀ (j : Nat) (o : Oper) cs b, ops[j]? = some o → o.op ≠ .select cs b)
    (hdef : ∀ (j : Nat) (o : Oper) c, ops[j]? = some o → o.op ≠ .defer c) :
    ∀ (fuel : Nat) (listed : Array Bool) (a : Act) (w : World), Closed ops listed →
      (∀ j oj, ops[j]? = some oj → j ≠ i → listed.getD j true = false → (∀ e ∈ oj.after, Region.binds .any e = true → e.on ≠ i) → (oi.apart ops oj = true ∧ (free = false → hd.contains j = false)) ∨ Chain ops j i) →
      i ∈ Region.ready .any ops listed → YieldsK P ops oi v a w free →
      wpAnyK F n P ops Q hd fuel (listed.setIfInBounds i true) (a.put oi.dst v) w → wpAnyK F n P ops Q hd (fuel + 1) listed a w := by
  intro fuel
  induction fuel with
  | zero =>
    intro listed a w hcl _ hr hy H
    refine ⟨fun h => (by rw [h] at hr; cases hr), fun j hj => ?_⟩
    by_cases hji : j = i
    · subst hji; exact hy.wpOpIn hfn (fun c => hdef _ _ c hi) hi ⟨fun _ => Below.refl _ _, H⟩
    · have := ready_mono hj hji
      rw [H.1] at this
      cases this
  | succ fuel ih =>
    intro listed a w hcl hfree hr hy H
    refine ⟨fun h => (by rw [h] at hr; cases hr), fun j hj => ?_⟩
    by_cases hji : j = i
    · subst hji; exact hy.wpOpIn hfn (fun c => hdef _ _ c hi) hi ⟨fun _ => Below.refl _ _, H⟩
    · have h1 := H.2 j (ready_mono hj hji)
      obtain ⟨hjun, oj, hoj, hall⟩ := mem_ready.1 hj
      have hnot : ∀ e ∈ oj.after, Region.binds .any e = true → e.on ≠ i := fun e he hb heq => by
        have h1 := hall e he hb
        have h0 := (mem_ready.1 hr).1
        rw [heq] at h1
        rcases Nat.lt_or_ge i listed.size with h' | h'
        · simp [h'] at h0 h1; rw [h0] at h1; cases h1
        · simp [Array.getElem?_eq_none h'] at h1
      obtain ⟨hap, hsoft⟩ : oi.apart ops oj = true ∧ (free = false → hd.contains j = false) := by
        rcases hfree j oj hoj hji hjun hnot with h | h
        · exact h
        · exfalso
          have h1 := h.listed hcl oj hoj hall
          have h0 := (mem_ready.1 hr).1
          rcases Nat.lt_or_ge i listed.size with h' | h'
          · simp [h'] at h0 h1; rw [h0] at h1; cases h1
          · simp [Array.getElem?_eq_none h'] at h1
      have h2 := wpOpIn_putK hoj hap (fun cs b => hsel i oi cs b hi) (fun cs b => hsel j oj cs b hoj) (fun c => hdef j oj c hoj) hy h1
      have hfree' : ∀ k ok, ops[k]? = some ok → k ≠ i → (listed.setIfInBounds j true).getD k true = false →
          (∀ e ∈ ok.after, Region.binds .any e = true → e.on ≠ i) → (oi.apart ops ok = true ∧ (free = false → hd.contains k = false)) ∨ Chain ops k i := fun k ok hk hki hun hno => by
        refine hfree k ok hk hki ?_ hno
        by_cases hjk : j = k
        · subst hjk; exact hjun
        · rw [getD_set_ne true hjk] at hun; exact hun
      refine wpOpIn_mono (fun a' w' h3 => ⟨h3.2.1, ih (listed.setIfInBounds j true) a' w' (hcl.set hj) hfree' (ready_mono hr (Ne.symm hji)) (h3.1.later fun e => h3.2.1 (hsoft e)) ?_⟩) h2
      rw [Array.setIfInBounds_comm _ _ hji]
      exact h3.2.2

/-- may number i be taken now? -/
def Oper.isDefer : Op → Bool
  | .defer _ => true
  | .select _ _ => true
  | _ => false
def serB (ops : Array Oper) : Bool := ops.toList.all fun o => !Oper.isDefer o.op
theorem ser_spec (h : serB ops = true) : (∀ (j : Nat) (o : Oper) cs b, ops[j]? = some o → o.op ≠ .select cs b) ∧ (∀ (j : Nat) (o : Oper) c, ops[j]? = some o → o.op ≠ .defer c) := by
  unfold serB at h
  rw [List.all_eq_true] at h
  refine ⟨fun j o cs b ho e => ?_, fun j o c ho e => ?_⟩
  · have := h o (by simpa using Array.mem_of_getElem? ho); simp [Oper.isDefer, e] at this
  · have := h o (by simpa using Array.mem_of_getElem? ho); simp [Oper.isDefer, e] at this
def edgeB (ops : Array Oper) (j i : Nat) : Bool := match ops[j]? with
  | some o => o.after.any fun e => Region.binds .any e && e.on == i
  | none => false
def pathB (ops : Array Oper) : List Nat → Nat → Bool
  | [], _ => false
  | [j], i => edgeB ops j i
  | j :: k :: r, i => edgeB ops j k && pathB ops (k :: r) i
theorem edge_spec {j i : Nat} (h : edgeB ops j i = true) : ∃ o e, ops[j]? = some o ∧ e ∈ o.after ∧ Region.binds .any e = true ∧ e.on = i := by
  unfold edgeB at h
  cases ho : ops[j]? with
  | none => rw [ho] at h; cases h
  | some o =>
    rw [ho] at h
    obtain ⟨q, hq, hb⟩ := Array.any_eq_true.1 h
    simp only [Bool.and_eq_true, beq_iff_eq] at hb
    exact ⟨o, o.after[q], rfl, Array.getElem_mem hq, hb.1, hb.2⟩
theorem path_spec : ∀ {l : List Nat} {i : Nat}, pathB ops l i = true → ∀ j, l.head? = some j → Chain ops j i
  | [], _, h, _, _ => by cases h
  | [j], i, h, j', e => by
    cases e
    obtain ⟨o, e, ho, he, hb, hi⟩ := edge_spec h
    exact .one ho he hb hi
  | j :: k :: r, i, h, j', e => by
    cases e
    simp only [pathB, Bool.and_eq_true] at h
    obtain ⟨o, e, ho, he, hb, hi⟩ := edge_spec h.1
    exact .more ho he hb hi (path_spec h.2 k rfl)
def closedB (ops : Array Oper) (listed : Array Bool) : Bool := ops.toList.zipIdx.all fun (o, j) => !listed.getD j false || o.after.all fun e => !Region.binds .any e || listed.getD e.on false
theorem closed_spec {listed : Array Bool} (h : closedB ops listed = true) : Closed ops listed := by
  intro j o ho hl e he hb
  unfold closedB at h
  rw [List.all_eq_true] at h
  have h1 := h (o, j) (by rw [List.mem_zipIdx_iff_getElem?]; simpa using ho)
  dsimp only at h1
  rw [hl, Bool.not_true, Bool.false_or, Array.all_eq_true_iff_forall_mem] at h1
  have h2 := h1 e he
  rw [hb, Bool.not_true, Bool.false_or] at h2
  exact h2
def takeB (ops : Array Oper) (hd : List Nat) (via : List (List Nat)) (listed : Array Bool) (free : Bool) (i : Nat) (oi : Oper) : Bool :=
  closedB ops listed && (Region.ready .any ops listed).contains i &&
  ops.toList.zipIdx.all fun (oj, j) => j == i || listed.getD j true || oj.after.any (fun e => Region.binds .any e && e.on == i) || (oi.apart ops oj && (free || !hd.contains j)) || via.any (fun l => l.head? == some j && pathB ops l i)
theorem take_spec {listed : Array Bool} {via : List (List Nat)} {free : Bool} {i : Nat} {oi : Oper} (h : takeB ops hd via listed free i oi = true) : Closed ops listed ∧ i ∈ Region.ready .any ops listed ∧
    ∀ j oj, ops[j]? = some oj → j ≠ i → listed.getD j true = false → (∀ e ∈ oj.after, Region.binds .any e = true → e.on ≠ i) → (oi.apart ops oj = true ∧ (free = false → hd.contains j = false)) ∨ Chain ops j i := by
  unfold takeB at h
  rw [Bool.and_eq_true, Bool.and_eq_true] at h
  obtain ⟨⟨hc, hr⟩, h⟩ := h
  refine ⟨closed_spec hc, by simpa using hr, ?_⟩
  intro j oj hj hji hl hno
  rw [List.all_eq_true] at h
  have h1 := h (oj, j) (by rw [List.mem_zipIdx_iff_getElem?]; simpa using hj)
  dsimp only at h1
  have h2 : (oj.after.any fun e => Region.binds .any e && e.on == i) = false := by
    rw [Array.any_eq_false']
    intro e he hb
    simp only [Bool.and_eq_true, beq_iff_eq] at hb
    exact hno e he hb.1 hb.2
  rw [h2, hl, show (j == i) = false from by simpa using hji] at h1
  simp only [Bool.false_or] at h1
  rw [Bool.or_eq_true] at h1
  rcases h1 with h1 | h1
  · rw [Bool.and_eq_true] at h1
    refine .inl ⟨h1.1, fun e => ?_⟩
    subst e
    simpa using h1.2
  · rw [List.any_eq_true] at h1
    obtain ⟨l, _, hl⟩ := h1
    rw [Bool.and_eq_true, beq_iff_eq] at hl
    exact .inr (path_spec hl.2 j hl.1)

/-- take number i, which only computes -/
theorem takeF {i : Nat} {oi : Oper} {v : Value} {fuel : Nat} {listed : Array Bool} {a : Act} {w : World} (hfn : ∀ f, F.fn f) (hp : serB ops = true) (hi0 : ops.toList[i]? = some oi)
    (hf : takeB ops hd [] listed true i oi = true) (hw : Region.wanted oi (yielded ops a.tmps) = true)
    (hv : ∀ w', (execOp a.eval oi).run P w' = .ok (.value v) w')
    (h : wpAnyK F n P ops Q hd fuel (listed.setIfInBounds i true) (a.put oi.dst v) w) : wpAnyK F n P ops Q hd (fuel + 1) listed a w := by
  have hi : ops[i]? = some oi := by simpa using hi0
  obtain ⟨t1, t2, t3⟩ := take_spec hf
  exact wpAnyK_first hfn hi (ser_spec hp).1 (ser_spec hp).2 fuel listed a w t1 t3 t2 (.inl ⟨hw, fun w' _ => hv w'⟩) h
/-- take number i, which loads -/
theorem takeL {via : List (List Nat)} {i : Nat} {oi : Oper} {v : Value} {fuel : Nat} {listed : Array Bool} {a : Act} {w : World} (hfn : ∀ f, F.fn f) (hp : serB ops = true) (hi0 : ops.toList[i]? = some oi)
    (hf : takeB ops hd via listed false i oi = true) (hw : Region.wanted oi (yielded ops a.tmps) = true)
    (hv : ∀ w', Below w.heap.size w w' → (execOp a.eval oi).run P w' = .ok (.value v) w')
    (h : wpAnyK F n P ops Q hd fuel (listed.setIfInBounds i true) (a.put oi.dst v) w) : wpAnyK F n P ops Q hd (fuel + 1) listed a w := by
  have hi : ops[i]? = some oi := by simpa using hi0
  obtain ⟨t1, t2, t3⟩ := take_spec hf
  exact wpAnyK_first hfn hi (ser_spec hp).1 (ser_spec hp).2 fuel listed a w t1 t3 t2 (.inl ⟨hw, fun w' h' => hv w' (h' rfl)⟩) h
/-- number j comes up, and no other -/
theorem runJ {j : Nat} {oj : Oper} {fuel : Nat} {listed : Array Bool} {a : Act} {w : World} (hj0 : ops.toList[j]? = some oj) (hr : Region.ready .any ops listed = [j]) (hw : Region.wanted oj (yielded ops a.tmps) = true)
    (h : oj.wpIn F n P a w (fun a' w' => (hd.contains j = false → Below w.heap.size w w') ∧ wpAnyK F n P ops Q hd fuel (listed.setIfInBounds j true) a' w') (onlyN Q)) : wpAnyK F n P ops Q hd (fuel + 1) listed a w := by
  have hj : ops[j]? = some oj := by simpa using hj0
  refine ⟨fun h0 => (by rw [hr] at h0; cases h0), fun i hi => ?_⟩
  rw [hr, List.mem_singleton] at hi
  subst hi
  unfold wpOpIn
  simp only [hj, hw, if_true]
  exact h
/-- an act that yields a value -/
theorem runV {j : Nat} {oj : Oper} {v : Value} {fuel : Nat} {listed : Array Bool} {a : Act} {w w1 : World} (hfn : ∀ f, F.fn f) (hp : serB ops = true) (hj0 : ops.toList[j]? = some oj) (hr : Region.ready .any ops listed = [j]) (hw : Region.wanted oj (yielded ops a.tmps) = true)
    (hrun : (execOp a.eval oj).run P w = .ok (.value v) w1) (hb : hd.contains j = false → Below w.heap.size w w1)
    (h : (hd.contains j = false → Below w.heap.size w w1) → wpAnyK F n P ops Q hd fuel (listed.setIfInBounds j true) (a.put oj.dst v) w1) : wpAnyK F n P ops Q hd (fuel + 1) listed a w := by
  have hj : ops[j]? = some oj := by simpa using hj0
  refine runJ hj0 hr hw ⟨fun f _ => hfn f, ?_⟩
  rw [Oper.semAt_plain F _ _ (fun c => (ser_spec hp).2 j oj c hj), hrun]
  exact ⟨hb, h hb⟩
/-- an act that yields nothing -/
theorem runS {j : Nat} {oj : Oper} {fuel : Nat} {listed : Array Bool} {a : Act} {w w1 : World} (hfn : ∀ f, F.fn f) (hp : serB ops = true) (hj0 : ops.toList[j]? = some oj) (hr : Region.ready .any ops listed = [j]) (hw : Region.wanted oj (yielded ops a.tmps) = true)
    (hrun : (execOp a.eval oj).run P w = .ok .skip w1) (hb : hd.contains j = false → Below w.heap.size w w1)
    (h : wpAnyK F n P ops Q hd fuel (listed.setIfInBounds j true) (a.put oj.dst undef) w1) : wpAnyK F n P ops Q hd (fuel + 1) listed a w := by
  have hj : ops[j]? = some oj := by simpa using hj0
  refine runJ hj0 hr hw ⟨fun f _ => hfn f, ?_⟩
  rw [Oper.semAt_plain F _ _ (fun c => (ser_spec hp).2 j oj c hj), hrun]
  exact ⟨hb, h⟩
/-- a call -/
theorem runC {j : Nat} {oj : Oper} {f : FuncId} {args : Array Value} {fuel : Nat} {listed : Array Bool} {a : Act} {w : World} (hfn : ∀ f, F.fn f) (hdep : F.depth.isSome = false) (hp : serB ops = true) (hj0 : ops.toList[j]? = some oj) (hr : Region.ready .any ops listed = [j])
    (hw : Region.wanted oj (yielded ops a.tmps) = true) (hrun : (execOp a.eval oj).run P w = .ok (.enter f args) w)
    (h : CallsIn F (n - 1) P f args w fun e w1 => ∃ v, e = .returned v ∧ (hd.contains j = false → Below w.heap.size w w1) ∧ wpAnyK F n P ops Q hd fuel (listed.setIfInBounds j true) (a.put oj.dst v) w1) : wpAnyK F n P ops Q hd (fuel + 1) listed a w := by
  have hj : ops[j]? = some oj := by simpa using hj0
  refine runJ hj0 hr hw ⟨fun f _ => hfn f, ?_⟩
  rw [Oper.semAt_plain F _ _ (fun c => (ser_spec hp).2 j oj c hj), hrun]
  refine ⟨fun e => absurd (hdep.symm.trans e) (by simp), h.mono ?_⟩
  rintro e w1 ⟨v, rfl, hb, h1⟩
  exact ⟨hb, h1⟩
theorem doneK {fuel : Nat} {listed : Array Bool} {a : Act} {w : World} (hr : Region.ready .any ops listed = []) (h : Q .normal a w) : wpAnyK F n P ops Q hd fuel listed a w := by
  cases fuel with
  | zero => exact ⟨hr, h⟩
  | succ f => exact ⟨fun _ => h, by rw [hr]; simp⟩
theorem serial {id : Nat} {a : Act} {w : World} (hd : List Nat) (hm : P.follows .mixedOrders = true) (h : wpAnyK F n P ops Q hd ops.size (Array.replicate ops.size false) a w.drew) : (Code.region id ops true).wpIn F n P Q a w :=
  wpIn_mono (wpIn_region_any hm (wpAnyIn_of_K _ _ _ _ h)) onlyN.imp
end

theorem exec_append {P : Program} {ρ : Operand → Value} {o : Oper} {s x : Operand} {t : TypeId} {v : Value} {w w1 : World} (ho : o.op = .call { callee := .builtin .append, args := #[s, x], argTypes := #[t, t] })
    (h : (Builtin.append_ #[t, t] o.type #[ρ s, ρ x]).run P w = .ok v w1) : (execOp ρ o).run P w = .ok (.value v) w1 := by
  unfold execOp
  simp only [ho, resolve, invoke, builtin, Sem.run_bind, Sem.run_pure, Result.andThen_ok, List.map_toArray, List.map_cons, List.map_nil, h]

end Go.Proofs.Ytjikokmhknnnoaa
