/- A region that draws its order, walked in one order, with a guarantee of its own for each operation. No program in sight. -/
import Derived.Test.YtlpgapmbajblmaaSrl
namespace Go.Proofs.Ytlpgapmbajblmaa
open Go.RowKit
namespace Ser2

section
variable {F : Fence} {n : Nat} {P : Program} {ops : Array Oper} {Q : Exit → Act → World → Prop} {G : Nat → World → World → Prop} {Kp : World → World → Prop}

/-- whatever order is picked from here on; behind an operation that is not among hd all old memory is as it was -/
def wpAnyK (F : Fence) (n : Nat) (P : Program) (ops : Array Oper) (Q : Exit → Act → World → Prop) (G : Nat → World → World → Prop) : Nat → Array Bool → Act → World → Prop
  | 0, listed, a, w => Region.ready .any ops listed = [] ∧ Q .normal a w
  | fuel + 1, listed, a, w =>
    (Region.ready .any ops listed = [] → Q .normal a w) ∧
    ∀ i ∈ Region.ready .any ops listed, wpOpIn F n P ops (onlyN Q) i (fun a' w' => G i w w' ∧ wpAnyK F n P ops Q G fuel (listed.setIfInBounds i true) a' w') a w

theorem wpAnyIn_of_K : ∀ (fuel : Nat) (listed : Array Bool) (a : Act) (w : World), wpAnyK F n P ops Q G fuel listed a w → wpAnyIn F n P .any ops (onlyN Q) fuel listed a w
  | 0, _, _, _, h => h
  | fuel + 1, _, _, _, h => ⟨h.1, fun i hi => wpOpIn_mono (fun a' w' h' => wpAnyIn_of_K fuel _ a' w' h'.2) (h.2 i hi)⟩

/-- the operation yields v here, and in every later world in which the old memory is as it was (in every world, where it is free) -/
def YieldsK (Kp : World → World → Prop) (P : Program) (ops : Array Oper) (o : Oper) (v : Value) (a : Act) (w : World) (free : Bool) : Prop :=
  (Region.wanted o (yielded ops a.tmps) = true ∧ ∀ w', (free = false → Kp w w') → (execOp a.eval o).run P w' = .ok (.value v) w') ∨
  (Region.wanted o (yielded ops a.tmps) = false ∧ v = undef)

theorem YieldsK.wpOpIn (hKr : ∀ w, Kp w w) {i : Nat} {o : Oper} {v : Value} {a : Act} {w : World} {free : Bool} (hfn : ∀ f, F.fn f) (hdf : ∀ c, o.op ≠ .defer c) (hi : ops[i]? = some o) (hy : YieldsK Kp P ops o v a w free)
    {K : Act → World → Prop} (h : K (a.put o.dst v) w) : wpOpIn F n P ops (onlyN Q) i K a w := by
  unfold Go.wpOpIn
  simp only [hi]
  rcases hy with ⟨hw, hv⟩ | ⟨hw, rfl⟩
  · simp only [hw, if_true, Oper.wpIn, Oper.semAt_plain F _ _ hdf, hv w (fun _ => hKr _), Oper.uponIn]; exact ⟨fun f _ => hfn f, h⟩
  · simp only [hw, Bool.false_eq_true, if_false]; exact ⟨fun f _ => hfn f, h⟩

theorem YieldsK.of_same {o : Oper} {v : Value} {a a' : Act} {w : World} {free : Bool} (hy : YieldsK Kp P ops o v a w free) (he : execOp a'.eval o = execOp a.eval o)
    (hw : Region.wanted o (yielded ops a'.tmps) = Region.wanted o (yielded ops a.tmps)) : YieldsK Kp P ops o v a' w free := by
  unfold YieldsK at *
  rw [he, hw]
  exact hy
theorem YieldsK.later (hKt : ∀ a b c, Kp a b → Kp b c → Kp a c) {o : Oper} {v : Value} {a : Act} {w w1 : World} {free : Bool} (hy : YieldsK Kp P ops o v a w free) (hb : free = false → Kp w w1) : YieldsK Kp P ops o v a w1 free :=
  hy.imp (fun ⟨hw, hv⟩ => ⟨hw, fun w' h' => hv w' fun e => hKt _ _ _ (hb e) (h' e)⟩) id

theorem wpOpIn_putK {j : Nat} {oi oj : Oper} {v : Value} {free : Bool} (hj : ops[j]? = some oj) (hap : oi.apart ops oj = true)
    (hsi : ∀ cs b, oi.op ≠ .select cs b) (hsj : ∀ cs b, oj.op ≠ .select cs b) (hdj : ∀ c, oj.op ≠ .defer c)
    {K : Act → World → Prop} {a : Act} {w : World}
    (hy : YieldsK Kp P ops oi v a w free) (h : wpOpIn F n P ops (onlyN Q) j K (a.put oi.dst v) w) :
    wpOpIn F n P ops (onlyN Q) j (fun a' w' => YieldsK Kp P ops oi v a' w free ∧ K (a'.put oi.dst v) w') a w := by
  obtain ⟨h1, h2, h3⟩ := Oper.apart_spec hap
  have keep : ∀ (a : Act), YieldsK Kp P ops oi v a w free → ∀ u, YieldsK Kp P ops oi v (a.put oj.dst u) w free := fun a hy u =>
    hy.of_same (execOp_put oi hsi a oj.dst u h3) (wanted_put oi a oj.dst u h3)
  have keepD : ∀ d, YieldsK Kp P ops oi v { a with defers := d :: a.defers } w free := fun d => hy.of_same rfl rfl
  unfold wpOpIn at *
  simp only [hj] at *
  rw [wanted_put oj a oi.dst v h1, about_put oj w a oi.dst v h1] at h
  split
  · rename_i hw
    simp only [hw, if_true] at h
    unfold Oper.wpIn at *
    rw [about_put oj w a oi.dst v h1] at h
    refine ⟨h.1, ?_⟩
    have h := h.2
    rw [Oper.semAt_plain F _ _ hdj, execOp_put oj hsj a oi.dst v h1] at h
    rw [Oper.semAt_plain F _ _ hdj]
    generalize (execOp a.eval oj).run P w = r at *
    cases r with
    | ok x w' =>
      cases x <;> simp only [Oper.uponIn] at h ⊢
      case value u => exact ⟨keep a hy u, by rw [← Act.put_comm a v u h2]; exact h⟩
      case skip => exact ⟨keep a hy _, by rw [← Act.put_comm a v undef h2]; exact h⟩
      case defer d =>
        refine ⟨keep _ (keepD d) _, ?_⟩
        rw [← Act.put_comm _ v undef h2, ← Act.put_defers]
        exact h
      case enter f args =>
        refine ⟨h.1, CallsIn.mono h.2 fun e w'' he => ?_⟩
        cases e with
        | returned u => exact ⟨keep a hy u, by rw [← Act.put_comm a v u h2]; exact he⟩
        | panicked c => exact he
        | outgrown => exact he
      case row row args => exact ⟨h.1, RowsIn.mono h.2 fun u w'' he => ⟨keep a hy u, by rw [← Act.put_comm a v u h2]; exact he⟩⟩
      case round l f tmps assign body =>
        refine ⟨h.1, RoundIn.mono h.2 fun e w'' he => ?_⟩
        cases e with
        | returned u => exact ⟨keep a hy u, by rw [← Act.put_comm a v u h2]; exact he⟩
        | panicked c => exact he
        | outgrown => exact he
    | halt x w' =>
      cases x <;> simp only [Oper.uponIn] at h ⊢
      case panic u => exact h
  · rename_i hw
    simp only [hw] at h
    exact ⟨h.1, keep a hy _, by rw [← Act.put_comm a v undef h2]; exact h.2⟩

theorem wpAnyK_first (hKr : ∀ w, Kp w w) (hKt : ∀ a b c, Kp a b → Kp b c → Kp a c) (hG : ∀ i w, G i w w) {hd : List Nat} (hs : ∀ j, hd.contains j = false → ∀ w w', G j w w' → Kp w w') {i : Nat} {oi : Oper} {v : Value} {free : Bool} (hfn : ∀ f, F.fn f) (hi : ops[i]? = some oi) (hsel : ∀ (j : Nat) (o : Oper) cs b, ops[j]? = some o → o.op ≠ .select cs b)
    (hdef : ∀ (j : Nat) (o : Oper) c, ops[j]? = some o → o.op ≠ .defer c) :
    ∀ (fuel : Nat) (listed : Array Bool) (a : Act) (w : World), Closed ops listed →
      (∀ j oj, ops[j]? = some oj → j ≠ i → listed.getD j true = false → (∀ e ∈ oj.after, Region.binds .any e = true → e.on ≠ i) → (oi.apart ops oj = true ∧ (free = false → hd.contains j = false)) ∨ Chain ops j i) →
      i ∈ Region.ready .any ops listed → YieldsK Kp P ops oi v a w free →
      wpAnyK F n P ops Q G fuel (listed.setIfInBounds i true) (a.put oi.dst v) w → wpAnyK F n P ops Q G (fuel + 1) listed a w := by
  intro fuel
  induction fuel with
  | zero =>
    intro listed a w hcl _ hr hy H
    refine ⟨fun h => (by rw [h] at hr; cases hr), fun j hj => ?_⟩
    by_cases hji : j = i
    · subst hji; exact hy.wpOpIn hKr hfn (fun c => hdef _ _ c hi) hi ⟨hG _ _, H⟩
    · have := ready_mono hj hji
      rw [H.1] at this
      cases this
  | succ fuel ih =>
    intro listed a w hcl hfree hr hy H
    refine ⟨fun h => (by rw [h] at hr; cases hr), fun j hj => ?_⟩
    by_cases hji : j = i
    · subst hji; exact hy.wpOpIn hKr hfn (fun c => hdef _ _ c hi) hi ⟨hG _ _, H⟩
    · have h1 := H.2 j (ready_mono hj hji)
      obtain ⟨hjun, oj, hoj, hall⟩ := mem_ready.1 hj
      have hnot : ∀ e ∈ oj.after, Region.binds .any e = true → e.on ≠ i := fun e he hb heq => by
        have h1 := hall e he hb
        have h0 := (mem_ready.1 hr).1
        rw [heq] at h1
        rcases Nat.lt_or_ge i listed.size with h' | h'
        · simp [h'] at h0 h1; rw [h0] at h1; cases h1
        · simp [Array.getElem?_eq_none h'] at h1
      obtain ⟨hap, hsoft⟩ : oi.apart ops oj = true ∧ (free = false → hd.contains j = false) := by
        rcases hfree j oj hoj hji hjun hnot with h | h
        · exact h
        · exfalso
          have h1 := h.listed hcl oj hoj hall
          have h0 := (mem_ready.1 hr).1
          rcases Nat.lt_or_ge i listed.size with h' | h'
          · simp [h'] at h0 h1; rw [h0] at h1; cases h1
          · simp [Array.getElem?_eq_none h'] at h1
      have h2 := wpOpIn_putK hoj hap (fun cs b => hsel i oi cs b hi) (fun cs b => hsel j oj cs b hoj) (fun c => hdef j oj c hoj) hy h1
      have hfree' : ∀ k ok, ops[k]? = some ok → k ≠ i → (listed.setIfInBounds j true).getD k true = false →
          (∀ e ∈ ok.after, Region.binds .any e = true → e.on ≠ i) → (oi.apart ops ok = true ∧ (free = false → hd.contains k = false)) ∨ Chain ops k i := fun k ok hk hki hun hno => by
        refine hfree k ok hk hki ?_ hno
        by_cases hjk : j = k
        · subst hjk; exact hjun
        · rw [getD_set_ne true hjk] at hun; exact hun
      refine wpOpIn_mono (fun a' w' h3 => ⟨h3.2.1, ih (listed.setIfInBounds j true) a' w' (hcl.set hj) hfree' (ready_mono hr (Ne.symm hji)) (h3.1.later hKt fun e => hs j (hsoft e) _ _ h3.2.1) ?_⟩) h2
      rw [Array.setIfInBounds_comm _ _ hji]
      exact h3.2.2

/-- take number i, which only computes -/
theorem takeF (hG : ∀ i w, G i w w) {i : Nat} {oi : Oper} {v : Value} {fuel : Nat} {listed : Array Bool} {a : Act} {w : World} (hfn : ∀ f, F.fn f) (hp : serB ops = true) (hi0 : ops.toList[i]? = some oi)
    (hf : takeB ops [] [] listed true i oi = true) (hw : Region.wanted oi (yielded ops a.tmps) = true)
    (hv : ∀ w', (execOp a.eval oi).run P w' = .ok (.value v) w')
    (h : wpAnyK F n P ops Q G fuel (listed.setIfInBounds i true) (a.put oi.dst v) w) : wpAnyK F n P ops Q G (fuel + 1) listed a w := by
  have hi : ops[i]? = some oi := by simpa using hi0
  obtain ⟨t1, t2, t3⟩ := take_spec hf
  exact wpAnyK_first (Kp := fun _ _ => True) (hd := []) (fun _ => trivial) (fun _ _ _ _ _ => trivial) hG (fun _ _ _ _ _ => trivial) hfn hi (ser_spec hp).1 (ser_spec hp).2 fuel listed a w t1 t3 t2 (.inl ⟨hw, fun w' _ => hv w'⟩) h
/-- take number i, which loads -/
theorem takeL (hKr : ∀ w, Kp w w) (hKt : ∀ a b c, Kp a b → Kp b c → Kp a c) (hG : ∀ i w, G i w w) {hd : List Nat} (hs : ∀ j, hd.contains j = false → ∀ w w', G j w w' → Kp w w') {via : List (List Nat)} {i : Nat} {oi : Oper} {v : Value} {fuel : Nat} {listed : Array Bool} {a : Act} {w : World} (hfn : ∀ f, F.fn f) (hp : serB ops = true) (hi0 : ops.toList[i]? = some oi)
    (hf : takeB ops hd via listed false i oi = true) (hw : Region.wanted oi (yielded ops a.tmps) = true)
    (hv : ∀ w', Kp w w' → (execOp a.eval oi).run P w' = .ok (.value v) w')
    (h : wpAnyK F n P ops Q G fuel (listed.setIfInBounds i true) (a.put oi.dst v) w) : wpAnyK F n P ops Q G (fuel + 1) listed a w := by
  have hi : ops[i]? = some oi := by simpa using hi0
  obtain ⟨t1, t2, t3⟩ := take_spec hf
  exact wpAnyK_first hKr hKt hG hs hfn hi (ser_spec hp).1 (ser_spec hp).2 fuel listed a w t1 t3 t2 (.inl ⟨hw, fun w' h' => hv w' (h' rfl)⟩) h
/-- number j comes up, and no other -/
theorem runJ {j : Nat} {oj : Oper} {fuel : Nat} {listed : Array Bool} {a : Act} {w : World} (hj0 : ops.toList[j]? = some oj) (hr : Region.ready .any ops listed = [j]) (hw : Region.wanted oj (yielded ops a.tmps) = true)
    (h : oj.wpIn F n P a w (fun a' w' => G j w w' ∧ wpAnyK F n P ops Q G fuel (listed.setIfInBounds j true) a' w') (onlyN Q)) : wpAnyK F n P ops Q G (fuel + 1) listed a w := by
  have hj : ops[j]? = some oj := by simpa using hj0
  refine ⟨fun h0 => (by rw [hr] at h0; cases h0), fun i hi => ?_⟩
  rw [hr, List.mem_singleton] at hi
  subst hi
  unfold wpOpIn
  simp only [hj, hw, if_true]
  exact h
/-- an act that yields a value -/
theorem runV {j : Nat} {oj : Oper} {v : Value} {fuel : Nat} {listed : Array Bool} {a : Act} {w w1 : World} (hfn : ∀ f, F.fn f) (hp : serB ops = true) (hj0 : ops.toList[j]? = some oj) (hr : Region.ready .any ops listed = [j]) (hw : Region.wanted oj (yielded ops a.tmps) = true)
    (hrun : (execOp a.eval oj).run P w = .ok (.value v) w1) (hb : G j w w1)
    (h : wpAnyK F n P ops Q G fuel (listed.setIfInBounds j true) (a.put oj.dst v) w1) : wpAnyK F n P ops Q G (fuel + 1) listed a w := by
  have hj : ops[j]? = some oj := by simpa using hj0
  refine runJ hj0 hr hw ⟨fun f _ => hfn f, ?_⟩
  rw [Oper.semAt_plain F _ _ (fun c => (ser_spec hp).2 j oj c hj), hrun]
  exact ⟨hb, h⟩
/-- an act that yields nothing -/
theorem runS {j : Nat} {oj : Oper} {fuel : Nat} {listed : Array Bool} {a : Act} {w w1 : World} (hfn : ∀ f, F.fn f) (hp : serB ops = true) (hj0 : ops.toList[j]? = some oj) (hr : Region.ready .any ops listed = [j]) (hw : Region.wanted oj (yielded ops a.tmps) = true)
    (hrun : (execOp a.eval oj).run P w = .ok .skip w1) (hb : G j w w1)
    (h : wpAnyK F n P ops Q G fuel (listed.setIfInBounds j true) (a.put oj.dst undef) w1) : wpAnyK F n P ops Q G (fuel + 1) listed a w := by
  have hj : ops[j]? = some oj := by simpa using hj0
  refine runJ hj0 hr hw ⟨fun f _ => hfn f, ?_⟩
  rw [Oper.semAt_plain F _ _ (fun c => (ser_spec hp).2 j oj c hj), hrun]
  exact ⟨hb, h⟩
/-- a call -/
theorem runC {j : Nat} {oj : Oper} {f : FuncId} {args : Array Value} {fuel : Nat} {listed : Array Bool} {a : Act} {w : World} (hfn : ∀ f, F.fn f) (hdep : F.depth.isSome = false) (hp : serB ops = true) (hj0 : ops.toList[j]? = some oj) (hr : Region.ready .any ops listed = [j])
    (hw : Region.wanted oj (yielded ops a.tmps) = true) (hrun : (execOp a.eval oj).run P w = .ok (.enter f args) w)
    (h : CallsIn F (n - 1) P f args w fun e w1 => ∃ v, e = .returned v ∧ G j w w1 ∧ wpAnyK F n P ops Q G fuel (listed.setIfInBounds j true) (a.put oj.dst v) w1) : wpAnyK F n P ops Q G (fuel + 1) listed a w := by
  have hj : ops[j]? = some oj := by simpa using hj0
  refine runJ hj0 hr hw ⟨fun f _ => hfn f, ?_⟩
  rw [Oper.semAt_plain F _ _ (fun c => (ser_spec hp).2 j oj c hj), hrun]
  refine ⟨fun e => absurd (hdep.symm.trans e) (by simp), h.mono ?_⟩
  rintro e w1 ⟨v, rfl, hb, h1⟩
  exact ⟨hb, h1⟩
theorem doneK {fuel : Nat} {listed : Array Bool} {a : Act} {w : World} (hr : Region.ready .any ops listed = []) (h : Q .normal a w) : wpAnyK F n P ops Q G fuel listed a w := by
  cases fuel with
  | zero => exact ⟨hr, h⟩
  | succ f => exact ⟨fun _ => h, by rw [hr]; simp⟩
theorem serial {id : Nat} {a : Act} {w : World} (G : Nat → World → World → Prop) (hm : P.follows .mixedOrders = true) (h : wpAnyK F n P ops Q G ops.size (Array.replicate ops.size false) a w.drew) : (Code.region id ops true).wpIn F n P Q a w :=
  wpIn_mono (wpIn_region_any hm (wpAnyIn_of_K _ _ _ _ h)) onlyN.imp
end


end Ser2
end Go.Proofs.Ytlpgapmbajblmaa
