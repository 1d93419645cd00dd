/- A call whose result is a row of its own. Over any program. -/
import Derived.Test.YtmglacjcefajlaaAcb
import Derived.Test.YtmglacjcefajlaaAmZ
import Derived.Test.YtmglacjcefajlaaBJ
import Derived.OrdersIn
import Derived.RangeFuncNested
import Derived.OwnWalkIn
import Derived.WalkKit
import Derived.Test.YtmglacjcefajlaaSv2
import Derived.Test.YtmglacjcefajlaaCk5
import Derived.Outline
namespace Go.Proofs.Ytmglacjcefajlaa
open Go.RowKit

theorem own_calls {E : Env} (hE : E.Ok) {k : Nat} {args : List D} {f : Func} {body : Code} {et : TypeId} {sz : Nat} {Φ : List D → Prop} (hf : E.P.funcs[k]? = some f) (hb : f.body = some body) (hc : chkCode body = true)
  (h : X E body (enterSt f args [] 0 []) (fun e σ => (e = .normal ∨ e = .ret) ∧ ∃ o n M, resD E.P f σ = some (.slice o n M) ∧ Acc et sz o n M σ.lv ∧ Φ M)) {ok0 : Nat → Nat → Prop} {vs : List Value} {w : World} (hok : ∀ b o, ok0 b o → b < w.heap.size) (hv : vals w (okGh ok0) args vs) :
  Calls E.P k vs.toArray w fun e w' => ∃ v o n M g', e = .returned v ∧ Below w.heap.size w w' ∧ val w' g' (.slice o n M) v ∧ Φ M ∧ (∀ b o, g'.ok b o → ok0 b o ∨ (w.heap.size ≤ b ∧ b < w'.heap.size)) ∧ (M ≠ [] → ∃ b cap, v = .slice (some ⟨b, 0, none⟩) M.length cap ∧ w.heap.size ≤ b ∧ b < w'.heap.size ∧ ∀ i, w'.frozen? ⟨b, i, none⟩ = false) := by
 obtain ⟨e, σ1, h1, he, o, n, M, hr, ha, hM⟩ := h
 have hS : S E.P 0 body (enterSt f args [] 0 []) (fun e' τ => (e' = .normal ∨ e' = .ret) ∧ resD E.P f τ = some (.slice o n M) ∧ τ.bx = σ1.bx ∧ τ.nx = σ1.nx ∧ τ.lv = σ1.lv) := S_of_X hE hc ⟨e, σ1, h1, he, hr, rfl, rfl, rfl⟩
 have hk : Known E.P (okGh ok0) w := ⟨hok, fun _ q => q.elim, fun _ _ q => q.elim⟩
 refine (S_calls (bx := []) (nx := 0) (lv := []) hf hb (Nat.le_refl _) hS (RW.start E.P w (okGh ok0) hk) hv).mono ?_
 rintro e' w' ⟨v, g', rfl, q1, q2, q3⟩
 refine ⟨v, o, n, M, g', rfl, RW.below q1, q3, hM, fun b x q => ?_, fun hne => ?_⟩
 ·rcases RW.okb q1 b x q with q | q
  ·exact .inl q.2
  ·exact .inr q
 ·rcases ha with ⟨_, h0, _⟩ | ⟨st, rfl, hst, rfl⟩
  ·exact absurd h0 hne
  ·obtain ⟨v', e', len, xs, r1, r2, _⟩ := RW.row q1 st hst
   obtain ⟨cs, hR, hp⟩ := q3
   cases hR with
   | slice _ _ _ A cap c hl hm ho _ _ _ _ _ =>
    have hv' := ho st et rfl
    rw [r1] at hv'
    cases hv'
    subst hp
    rcases r2.2 with ⟨e0, _⟩ | ⟨b, cap', cur, e1, hbb, hcur, _⟩
    ·injection e0 with _ e0 _
     exact absurd (List.eq_nil_of_length_eq_zero e0) hne
    ·have hlt := (Array.getElem?_eq_some_iff.1 hcur).1
     injection e1 with e1 e2 e3
     subst e1
     exact ⟨b, cap, rfl, hbb, hlt, fun i => by simp [World.frozen?, hcur]⟩

end Go.Proofs.Ytmglacjcefajlaa

/- A region that draws its order, walked in one order: what only computes or loads is taken as soon as it may come up; what acts comes up one at a time. No program in sight. -/
namespace Go.Proofs.Ytmglacjcefajlaa
open Go.RowKit

section
variable {F : Fence} {n : Nat} {P : Program} {ops : Array Oper} {Q : Exit → Act → World → Prop} {hd : List Nat}

/-- whatever order is picked from here on; behind an operation that is not among hd all old memory is as it was -/
def wpAnyK (F : Fence) (n : Nat) (P : Program) (ops : Array Oper) (Q : Exit → Act → World → Prop) (hd : List Nat) : Nat → Array Bool → Act → World → Prop
 | 0, listed, a, w => Region.ready .any ops listed = [] ∧ Q .normal a w
 | fuel + 1, listed, a, w =>
  (Region.ready .any ops listed = [] → Q .normal a w) ∧
  ∀ i ∈ Region.ready .any ops listed, wpOpIn F n P ops (onlyN Q) i (fun a' w' => (hd.contains i = false → Below w.heap.size w w') ∧ wpAnyK F n P ops Q hd fuel (listed.setIfInBounds i true) a' w') a w

theorem wpAnyIn_of_K : ∀ (fuel : Nat) (listed : Array Bool) (a : Act) (w : World), wpAnyK F n P ops Q hd fuel listed a w → wpAnyIn F n P .any ops (onlyN Q) fuel listed a w
 | 0, _, _, _, h => h
 | fuel + 1, _, _, _, h => ⟨h.1, fun i hi => wpOpIn_mono (fun a' w' h' => wpAnyIn_of_K fuel _ a' w' h'.2) (h.2 i hi)⟩

theorem YieldsK.of_same {o : Oper} {v : Value} {a a' : Act} {w : World} {free : Bool} (hy : YieldsK P ops o v a w free) (he : execOp a'.eval o = execOp a.eval o)
  (hw : Region.wanted o (yielded ops a'.tmps) = Region.wanted o (yielded ops a.tmps)) : YieldsK P ops o v a' w free := by
 unfold YieldsK at *
 rw [he, hw]
 exact hy
theorem wpOpIn_putK {j : Nat} {oi oj : Oper} {v : Value} {free : Bool} (hj : ops[j]? = some oj) (hap : oi.apart ops oj = true)
  (hsi : ∀ cs b, oi.op ≠ .select cs b) (hsj : ∀ cs b, oj.op ≠ .select cs b) (hdj : ∀ c, oj.op ≠ .defer c)
  {K : Act → World → Prop} {a : Act} {w : World}
  (hy : YieldsK P ops oi v a w free) (h : wpOpIn F n P ops (onlyN Q) j K (a.put oi.dst v) w) :
  wpOpIn F n P ops (onlyN Q) j (fun a' w' => YieldsK P ops oi v a' w free ∧ K (a'.put oi.dst v) w') a w := by
 obtain ⟨h1, h2, h3⟩ := Oper.apart_spec hap
 have keep : ∀ (a : Act), YieldsK P ops oi v a w free → ∀ u, YieldsK P ops oi v (a.put oj.dst u) w free := fun a hy u =>
  hy.of_same (execOp_put oi hsi a oj.dst u h3) (wanted_put oi a oj.dst u h3)
 have keepD : ∀ d, YieldsK P ops oi v { a with defers := d :: a.defers } w free := fun d => hy.of_same rfl rfl
 unfold wpOpIn at *
 simp only [hj] at *
 rw [wanted_put oj a oi.dst v h1, about_put oj w a oi.dst v h1] at h
 split
 ·rename_i hw
  simp only [hw, if_true] at h
  unfold Oper.wpIn at *
  rw [about_put oj w a oi.dst v h1] at h
  refine ⟨h.1, ?_⟩
  have h := h.2
  rw [Oper.semAt_plain F _ _ hdj, execOp_put oj hsj a oi.dst v h1] at h
  rw [Oper.semAt_plain F _ _ hdj]
  generalize (execOp a.eval oj).run P w = r at *
  cases r with
  | ok x w' =>
   cases x <;> simp only [Oper.uponIn] at h ⊢
   case value u => exact ⟨keep a hy u, by rw [← Act.put_comm a v u h2]; exact h⟩
   case skip => exact ⟨keep a hy _, by rw [← Act.put_comm a v undef h2]; exact h⟩
   case defer d =>
    refine ⟨keep _ (keepD d) _, ?_⟩
    rw [← Act.put_comm _ v undef h2, ← Act.put_defers]
    exact h
   case enter f args =>
    refine ⟨h.1, CallsIn.mono h.2 fun e w'' he => ?_⟩
    cases e with
    | returned u => exact ⟨keep a hy u, by rw [← Act.put_comm a v u h2]; exact he⟩
    | panicked c => exact he
    | outgrown => exact he
   case row row args => exact ⟨h.1, RowsIn.mono h.2 fun u w'' he => ⟨keep a hy u, by rw [← Act.put_comm a v u h2]; exact he⟩⟩
   case round l f tmps assign body =>
    refine ⟨h.1, RoundIn.mono h.2 fun e w'' he => ?_⟩
    cases e with
    | returned u => exact ⟨keep a hy u, by rw [← Act.put_comm a v u h2]; exact he⟩
    | panicked c => exact he
    | outgrown => exact he
  | halt x w' =>
   cases x <;> simp only [Oper.uponIn] at h ⊢
   case panic u => exact h
 ·rename_i hw
  simp only [hw] at h
  exact ⟨h.1, keep a hy _, by rw [← Act.put_comm a v undef h2]; exact h.2⟩

theorem wpAnyK_first {i : Nat} {oi : Oper} {v : Value} {free : Bool} (hfn : ∀ f, F.fn f) (hi : ops[i]? = some oi) (hsel : ∀ (j : Nat) (o : Oper) cs b, ops[j]? = some o → o.op ≠ .select cs b)
  (hdef : ∀ (j : Nat) (o : Oper) c, ops[j]? = some o → o.op ≠ .defer c) :
  ∀ (fuel : Nat) (listed : Array Bool) (a : Act) (w : World), Closed ops listed →
   (∀ j oj, ops[j]? = some oj → j ≠ i → listed.getD j true = false → (∀ e ∈ oj.after, Region.binds .any e = true → e.on ≠ i) → (oi.apart ops oj = true ∧ (free = false → hd.contains j = false)) ∨ Chain ops j i) →
   i ∈ Region.ready .any ops listed → YieldsK P ops oi v a w free →
   wpAnyK F n P ops Q hd fuel (listed.setIfInBounds i true) (a.put oi.dst v) w → wpAnyK F n P ops Q hd (fuel + 1) listed a w := by
 intro fuel
 induction fuel with
 | zero =>
  intro listed a w hcl _ hr hy H
  refine ⟨fun h => (by rw [h] at hr; cases hr), fun j hj => ?_⟩
  by_cases hji : j = i
  ·subst hji; exact hy.wpOpIn hfn (fun c => hdef _ _ c hi) hi ⟨fun _ => Below.refl _ _, H⟩
  ·have := ready_mono hj hji
   rw [H.1] at this
   cases this
 | succ fuel ih =>
  intro listed a w hcl hfree hr hy H
  refine ⟨fun h => (by rw [h] at hr; cases hr), fun j hj => ?_⟩
  by_cases hji : j = i
  ·subst hji; exact hy.wpOpIn hfn (fun c => hdef _ _ c hi) hi ⟨fun _ => Below.refl _ _, H⟩
  ·have h1 := H.2 j (ready_mono hj hji)
   obtain ⟨hjun, oj, hoj, hall⟩ := mem_ready.1 hj
   have hnot : ∀ e ∈ oj.after, Region.binds .any e = true → e.on ≠ i := fun e he hb heq => by
    have h1 := hall e he hb
    have h0 := (mem_ready.1 hr).1
    rw [heq] at h1
    rcases Nat.lt_or_ge i listed.size with h' | h'
    ·simp [h'] at h0 h1; rw [h0] at h1; cases h1
    ·simp [Array.getElem?_eq_none h'] at h1
   obtain ⟨hap, hsoft⟩ : oi.apart ops oj = true ∧ (free = false → hd.contains j = false) := by
    rcases hfree j oj hoj hji hjun hnot with h | h
    ·exact h
    ·exfalso
     have h1 := h.listed hcl oj hoj hall
     have h0 := (mem_ready.1 hr).1
     rcases Nat.lt_or_ge i listed.size with h' | h'
     ·simp [h'] at h0 h1; rw [h0] at h1; cases h1
     ·simp [Array.getElem?_eq_none h'] at h1
   have h2 := wpOpIn_putK hoj hap (fun cs b => hsel i oi cs b hi) (fun cs b => hsel j oj cs b hoj) (fun c => hdef j oj c hoj) hy h1
   have hfree' : ∀ k ok, ops[k]? = some ok → k ≠ i → (listed.setIfInBounds j true).getD k true = false →
     (∀ e ∈ ok.after, Region.binds .any e = true → e.on ≠ i) → (oi.apart ops ok = true ∧ (free = false → hd.contains k = false)) ∨ Chain ops k i := fun k ok hk hki hun hno => by
    refine hfree k ok hk hki ?_ hno
    by_cases hjk : j = k
    ·subst hjk; exact hjun
    ·rw [getD_set_ne true hjk] at hun; exact hun
   refine wpOpIn_mono (fun a' w' h3 => ⟨h3.2.1, ih (listed.setIfInBounds j true) a' w' (hcl.set hj) hfree' (ready_mono hr (Ne.symm hji)) (h3.1.later fun e => h3.2.1 (hsoft e)) ?_⟩) h2
   rw [Array.setIfInBounds_comm _ _ hji]
   exact h3.2.2

/-- may number i be taken now? -/
def Oper.isDefer : Op → Bool
 | .defer _ => true
 | .select _ _ => true
 | _ => false
def serB (ops : Array Oper) : Bool := ops.toList.all fun o => !Oper.isDefer o.op
theorem ser_spec (h : serB ops = true) : (∀ (j : Nat) (o : Oper) cs b, ops[j]? = some o → o.op ≠ .select cs b) ∧ (∀ (j : Nat) (o : Oper) c, ops[j]? = some o → o.op ≠ .defer c) := by
 unfold serB at h
 rw [List.all_eq_true] at h
 refine ⟨fun j o cs b ho e => ?_, fun j o c ho e => ?_⟩
 ·have := h o (by simpa using Array.mem_of_getElem? ho); simp [Oper.isDefer, e] at this
 ·have := h o (by simpa using Array.mem_of_getElem? ho); simp [Oper.isDefer, e] at this
def edgeB (ops : Array Oper) (j i : Nat) : Bool := match ops[j]? with
 | some o => o.after.any fun e => Region.binds .any e && e.on == i
 | none => false
def pathB (ops : Array Oper) : List Nat → Nat → Bool
 | [], _ => false
 | [j], i => edgeB ops j i
 | j :: k :: r, i => edgeB ops j k && pathB ops (k :: r) i
theorem edge_spec {j i : Nat} (h : edgeB ops j i = true) : ∃ o e, ops[j]? = some o ∧ e ∈ o.after ∧ Region.binds .any e = true ∧ e.on = i := by
 unfold edgeB at h
 cases ho : ops[j]? with
 | none => rw [ho] at h; cases h
 | some o =>
  rw [ho] at h
  obtain ⟨q, hq, hb⟩ := Array.any_eq_true.1 h
  simp only [zat, beq_iff_eq] at hb
  exact ⟨o, o.after[q], rfl, Array.getElem_mem hq, hb.1, hb.2⟩
theorem path_spec : ∀ {l : List Nat} {i : Nat}, pathB ops l i = true → ∀ j, l.head? = some j → Chain ops j i
 | [], _, h, _, _ => by cases h
 | [j], i, h, j', e => by
  cases e
  obtain ⟨o, e, ho, he, hb, hi⟩ := edge_spec h
  exact .one ho he hb hi
 | j :: k :: r, i, h, j', e => by
  cases e
  simp only [pathB, zat] at h
  obtain ⟨o, e, ho, he, hb, hi⟩ := edge_spec h.1
  exact .more ho he hb hi (path_spec h.2 k rfl)
def closedB (ops : Array Oper) (listed : Array Bool) : Bool := ops.toList.zipIdx.all fun (o, j) => !listed.getD j false || o.after.all fun e => !Region.binds .any e || listed.getD e.on false
theorem closed_spec {listed : Array Bool} (h : closedB ops listed = true) : Closed ops listed := by
 intro j o ho hl e he hb
 unfold closedB at h
 rw [List.all_eq_true] at h
 have h1 := h (o, j) (by rw [List.mem_zipIdx_iff_getElem?]; simpa using ho)
 dsimp only at h1
 rw [hl, Bool.not_true, Bool.false_or, Array.all_eq_true_iff_forall_mem] at h1
 have h2 := h1 e he
 rw [hb, Bool.not_true, Bool.false_or] at h2
 exact h2
def takeB (ops : Array Oper) (hd : List Nat) (via : List (List Nat)) (listed : Array Bool) (free : Bool) (i : Nat) (oi : Oper) : Bool :=
 closedB ops listed && (Region.ready .any ops listed).contains i &&
 ops.toList.zipIdx.all fun (oj, j) => j == i || listed.getD j true || oj.after.any (fun e => Region.binds .any e && e.on == i) || (oi.apart ops oj && (free || !hd.contains j)) || via.any (fun l => l.head? == some j && pathB ops l i)
theorem take_spec {listed : Array Bool} {via : List (List Nat)} {free : Bool} {i : Nat} {oi : Oper} (h : takeB ops hd via listed free i oi = true) : Closed ops listed ∧ i ∈ Region.ready .any ops listed ∧
  ∀ j oj, ops[j]? = some oj → j ≠ i → listed.getD j true = false → (∀ e ∈ oj.after, Region.binds .any e = true → e.on ≠ i) → (oi.apart ops oj = true ∧ (free = false → hd.contains j = false)) ∨ Chain ops j i := by
 unfold takeB at h
 rw [zat, zat] at h
 obtain ⟨⟨hc, hr⟩, h⟩ := h
 refine ⟨closed_spec hc, by simpa using hr, ?_⟩
 intro j oj hj hji hl hno
 rw [List.all_eq_true] at h
 have h1 := h (oj, j) (by rw [List.mem_zipIdx_iff_getElem?]; simpa using hj)
 dsimp only at h1
 have h2 : (oj.after.any fun e => Region.binds .any e && e.on == i) = false := by
  rw [Array.any_eq_false']
  intro e he hb
  simp only [zat, beq_iff_eq] at hb
  exact hno e he hb.1 hb.2
 rw [h2, hl, show (j == i) = false from by simpa using hji] at h1
 simp only [Bool.false_or] at h1
 rw [Bool.or_eq_true] at h1
 rcases h1 with h1 | h1
 ·rw [zat] at h1
  refine .inl ⟨h1.1, fun e => ?_⟩
  subst e
  simpa using h1.2
 ·rw [List.any_eq_true] at h1
  obtain ⟨l, _, hl⟩ := h1
  rw [zat, beq_iff_eq] at hl
  exact .inr (path_spec hl.2 j hl.1)

/-- take number i, which only computes -/
theorem takeF {i : Nat} {oi : Oper} {v : Value} {fuel : Nat} {listed : Array Bool} {a : Act} {w : World} (hfn : ∀ f, F.fn f) (hp : serB ops = true) (hi0 : ops.toList[i]? = some oi)
  (hf : takeB ops hd [] listed true i oi = true) (hw : Region.wanted oi (yielded ops a.tmps) = true)
  (hv : ∀ w', (execOp a.eval oi).run P w' = .ok (.value v) w')
  (h : wpAnyK F n P ops Q hd fuel (listed.setIfInBounds i true) (a.put oi.dst v) w) : wpAnyK F n P ops Q hd (fuel + 1) listed a w := by
 have hi : ops[i]? = some oi := by simpa using hi0
 obtain ⟨t1, t2, t3⟩ := take_spec hf
 exact wpAnyK_first hfn hi (ser_spec hp).1 (ser_spec hp).2 fuel listed a w t1 t3 t2 (.inl ⟨hw, fun w' _ => hv w'⟩) h
/-- take number i, which loads -/
theorem takeL {via : List (List Nat)} {i : Nat} {oi : Oper} {v : Value} {fuel : Nat} {listed : Array Bool} {a : Act} {w : World} (hfn : ∀ f, F.fn f) (hp : serB ops = true) (hi0 : ops.toList[i]? = some oi)
  (hf : takeB ops hd via listed false i oi = true) (hw : Region.wanted oi (yielded ops a.tmps) = true)
  (hv : ∀ w', Below w.heap.size w w' → (execOp a.eval oi).run P w' = .ok (.value v) w')
  (h : wpAnyK F n P ops Q hd fuel (listed.setIfInBounds i true) (a.put oi.dst v) w) : wpAnyK F n P ops Q hd (fuel + 1) listed a w := by
 have hi : ops[i]? = some oi := by simpa using hi0
 obtain ⟨t1, t2, t3⟩ := take_spec hf
 exact wpAnyK_first hfn hi (ser_spec hp).1 (ser_spec hp).2 fuel listed a w t1 t3 t2 (.inl ⟨hw, fun w' h' => hv w' (h' rfl)⟩) h
/-- number j comes up, and no other -/
theorem runJ {j : Nat} {oj : Oper} {fuel : Nat} {listed : Array Bool} {a : Act} {w : World} (hj0 : ops.toList[j]? = some oj) (hr : Region.ready .any ops listed = [j]) (hw : Region.wanted oj (yielded ops a.tmps) = true)
  (h : oj.wpIn F n P a w (fun a' w' => (hd.contains j = false → Below w.heap.size w w') ∧ wpAnyK F n P ops Q hd fuel (listed.setIfInBounds j true) a' w') (onlyN Q)) : wpAnyK F n P ops Q hd (fuel + 1) listed a w := by
 have hj : ops[j]? = some oj := by simpa using hj0
 refine ⟨fun h0 => (by rw [hr] at h0; cases h0), fun i hi => ?_⟩
 rw [hr, List.mem_singleton] at hi
 subst hi
 unfold wpOpIn
 simp only [hj, hw, if_true]
 exact h
/-- a call -/
theorem runC {j : Nat} {oj : Oper} {f : FuncId} {args : Array Value} {fuel : Nat} {listed : Array Bool} {a : Act} {w : World} (hfn : ∀ f, F.fn f) (hdep : F.depth.isSome = false) (hp : serB ops = true) (hj0 : ops.toList[j]? = some oj) (hr : Region.ready .any ops listed = [j])
  (hw : Region.wanted oj (yielded ops a.tmps) = true) (hrun : (execOp a.eval oj).run P w = .ok (.enter f args) w)
  (h : CallsIn F (n - 1) P f args w fun e w1 => ∃ v, e = .returned v ∧ (hd.contains j = false → Below w.heap.size w w1) ∧ wpAnyK F n P ops Q hd fuel (listed.setIfInBounds j true) (a.put oj.dst v) w1) : wpAnyK F n P ops Q hd (fuel + 1) listed a w := by
 have hj : ops[j]? = some oj := by simpa using hj0
 refine runJ hj0 hr hw ⟨fun f _ => hfn f, ?_⟩
 rw [Oper.semAt_plain F _ _ (fun c => (ser_spec hp).2 j oj c hj), hrun]
 refine ⟨fun e => absurd (hdep.symm.trans e) (by simp), h.mono ?_⟩
 rintro e w1 ⟨v, rfl, hb, h1⟩
 exact ⟨hb, h1⟩
theorem doneK {fuel : Nat} {listed : Array Bool} {a : Act} {w : World} (hr : Region.ready .any ops listed = []) (h : Q .normal a w) : wpAnyK F n P ops Q hd fuel listed a w := by
 cases fuel with
 | zero => exact ⟨hr, h⟩
 | succ f => exact ⟨fun _ => h, by rw [hr]; simp⟩
theorem serial {id : Nat} {a : Act} {w : World} (hd : List Nat) (hm : P.follows .mixedOrders = true) (h : wpAnyK F n P ops Q hd ops.size (Array.replicate ops.size false) a w.drew) : (Code.region id ops true).wpIn F n P Q a w :=
 wpIn_mono (wpIn_region_any hm (wpAnyIn_of_K _ _ _ _ h)) onlyN.imp
end
end Go.Proofs.Ytmglacjcefajlaa

/- CheckerSwap: helpers for its walk in memory: programs and nodes in memory, what is read where only strings have turned. -/
namespace Go.Proofs.Ytmglacjcefajlaa
open Go.RowKit

theorem OkGh.ext {ok ok' : Nat → Nat → Prop} {w w' : World} (hB : ∀ b o, ok b o → ok' b o) (hk : ∀ b o, ok b o → w'.cell? ⟨b, o, none⟩ = w.cell? ⟨b, o, none⟩) (hs : w.heap.size ≤ w'.heap.size) : Ext (okGh ok) w (okGh ok') w' :=
 ⟨hB, fun _ _ q => (by cases q), fun _ _ q => (by cases q), hk, fun _ q => q.elim, fun _ _ q => q.elim, fun _ _ q => (by cases q), fun _ q => q.elim, hs⟩
theorem val.move {w w' : World} {ok ok' : Nat → Nat → Prop} {d : D} {v : Value} (hB : ∀ b o, ok b o → ok' b o) (hk : ∀ b o, ok b o → w'.cell? ⟨b, o, none⟩ = w.cell? ⟨b, o, none⟩) (hs : w.heap.size ≤ w'.heap.size) (h : val w (okGh ok) d v) : val w' (okGh ok') d v := h.ext (OkGh.ext hB hk hs)
/-- a contract over data, where the data lie in known cells: the answer lies there or in new blocks -/
theorem calls_of_pc {k : Nat} {args : List D} {d : D} (h : PContract Try.prog k args d) {ok : Nat → Nat → Prop} {w : World} (hok : ∀ b o, ok b o → b < w.heap.size) {vs : List Value} (hv : vals w (okGh ok) args vs) :
  Calls Try.prog k vs.toArray w fun e w' => ∃ v g', e = .returned v ∧ Below w.heap.size w w' ∧ val w' g' d v ∧ ∀ b o, g'.ok b o → ok b o ∨ (w.heap.size ≤ b ∧ b < w'.heap.size) := by
 refine (h (okGh ok) vs w ⟨hok, fun b (q : False) => q.elim, fun _ _ (q : False) => q.elim⟩ hv).mono ?_
 rintro e w' ⟨v, g', rfl, hb, hg, hd⟩
 exact ⟨v, g', rfl, hb, hd, hg.ok2⟩
theorem calls_of_fn' {k : Nat} {args : List D} {d : D} (h : fn EV k args = some d) {ok : Nat → Nat → Prop} {w : World} (hok : ∀ b o, ok b o → b < w.heap.size) {vs : List Value} (hv : vals w (okGh ok) args vs) :
  Calls Try.prog k vs.toArray w fun e w' => ∃ v g', e = .returned v ∧ Below w.heap.size w w' ∧ val w' g' d v ∧ ∀ b o, g'.ok b o → ok b o ∨ (w.heap.size ≤ b ∧ b < w'.heap.size) := calls_of_pc (fn_sound EV EV_ok h) hok hv
theorem vals_nil_of {w : World} {g : Gh} : vals w g [] [] := ⟨rfl, fun _j h => absurd h (Nat.not_lt_zero _)⟩
theorem vals_one_of {w : World} {g : Gh} {d : D} {v : Value} (h : val w g d v) : vals w g [d] [v] := ⟨rfl, fun j h1 h2 => by
 have : j = 0 := by simp at h1; omega
 subst this; exact h⟩
theorem vals_three_of {w : World} {g : Gh} {d d' d'' : D} {v v' v'' : Value} (h : val w g d v) (h' : val w g d' v') (h'' : val w g d'' v'') : vals w g [d, d', d''] [v, v', v''] := ⟨rfl, fun j h1 h2 => by
 match j, h1 with
 | 0, _ => exact h
 | 1, _ => exact h'
 | 2, _ => exact h''⟩
theorem keepc {W w1 : World} (hb : Below W.heap.size W w1) {p : Addr} {v : Value} (h : W.cell? p = some v) : w1.cell? p = some v :=
 (hb.cell (World.block_lt_of_cell? W p h)).trans h
theorem wanted_none {ops : Array Oper} {o : Oper} {t : Array Value} (hg : o.guard = none) : Region.wanted o (yielded ops t) = true := by simp [Region.wanted, hg]
theorem six_at {w : World} {g t : Nat} {x0 x1 x2 x3 x4 x5 : Value} (h : w.heap[g]? = some (.cells #[x0, x1, x2, x3, x4, x5] t (0, 0))) :
  w.cell? ⟨g, 0, none⟩ = some x0 ∧ w.cell? ⟨g, 1, none⟩ = some x1 ∧ w.cell? ⟨g, 2, none⟩ = some x2 ∧ w.cell? ⟨g, 3, none⟩ = some x3 ∧ w.cell? ⟨g, 4, none⟩ = some x4 ∧ w.cell? ⟨g, 5, none⟩ = some x5 :=
 ⟨cell_of_row _ _ 0 _ _ _ h, cell_of_row _ _ 1 _ _ _ h, cell_of_row _ _ 2 _ _ _ h, cell_of_row _ _ 3 _ _ _ h, cell_of_row _ _ 4 _ _ _ h, cell_of_row _ _ 5 _ _ _ h⟩
theorem frz_row {w : World} {b : Nat} {cs : Array Value} {t : TypeId} (h : w.heap[b]? = some (.cells cs t (0, 0))) (i : Nat) : w.frozen? ⟨b, i, none⟩ = false := by simp [World.frozen?, h]
theorem R_six {w : World} {g : Gh} {d0 d1 d2 d3 d4 d5 : D} {us : List Value} (h : R w g (.agg [d0, d1, d2, d3, d4, d5]) us) : ∃ x0 x1 x2 x3 x4 x5, us = [x0, x1, x2, x3, x4, x5] ∧ R w g d0 [x0] ∧ R w g d1 [x1] ∧ R w g d2 [x2] ∧ R w g d3 [x3] ∧ R w g d4 [x4] ∧ R w g d5 [x5] := by
 have hl := R_agg_len h
 match us, hl with
 | [x0, x1, x2, x3, x4, x5], _ =>
  obtain ⟨_, r0⟩ := R_agg_at h 0 (by simp)
  obtain ⟨_, r1⟩ := R_agg_at h 1 (by simp)
  obtain ⟨_, r2⟩ := R_agg_at h 2 (by simp)
  obtain ⟨_, r3⟩ := R_agg_at h 3 (by simp)
  obtain ⟨_, r4⟩ := R_agg_at h 4 (by simp)
  obtain ⟨_, r5⟩ := R_agg_at h 5 (by simp)
  exact ⟨x0, x1, x2, x3, x4, x5, rfl, r0, r1, r2, r3, r4, r5⟩
theorem R_six' {w : World} {g : Gh} {d0 d1 d2 d3 d4 d5 : D} {x0 x1 x2 x3 x4 x5 : Value} (h0 : R w g d0 [x0]) (h1 : R w g d1 [x1]) (h2 : R w g d2 [x2]) (h3 : R w g d3 [x3]) (h4 : R w g d4 [x4]) (h5 : R w g d5 [x5]) : R w g (.agg [d0, d1, d2, d3, d4, d5]) [x0, x1, x2, x3, x4, x5] :=
 .agg _ _ rfl fun j h h' => by
  match j, h with
  | 0, _ => exact h0
  | 1, _ => exact h1
  | 2, _ => exact h2
  | 3, _ => exact h3
  | 4, _ => exact h4
  | 5, _ => exact h5
theorem R_four {w : World} {g : Gh} {d0 d1 d2 d3 : D} {us : List Value} (h : R w g (.agg [d0, d1, d2, d3]) us) : ∃ x0 x1 x2 x3, us = [x0, x1, x2, x3] ∧ R w g d0 [x0] ∧ R w g d1 [x1] ∧ R w g d2 [x2] ∧ R w g d3 [x3] := by
 have hl := R_agg_len h
 match us, hl with
 | [x0, x1, x2, x3], _ =>
  obtain ⟨_, r0⟩ := R_agg_at h 0 (by simp)
  obtain ⟨_, r1⟩ := R_agg_at h 1 (by simp)
  obtain ⟨_, r2⟩ := R_agg_at h 2 (by simp)
  obtain ⟨_, r3⟩ := R_agg_at h 3 (by simp)
  exact ⟨x0, x1, x2, x3, rfl, r0, r1, r2, r3⟩
theorem R_four' {w : World} {g : Gh} {d0 d1 d2 d3 : D} {x0 x1 x2 x3 : Value} (h0 : R w g d0 [x0]) (h1 : R w g d1 [x1]) (h2 : R w g d2 [x2]) (h3 : R w g d3 [x3]) : R w g (.agg [d0, d1, d2, d3]) [x0, x1, x2, x3] :=
 .agg _ _ rfl fun j h h' => by
  match j, h with
  | 0, _ => exact h0
  | 1, _ => exact h1
  | 2, _ => exact h2
  | 3, _ => exact h3
theorem val_sl {w : World} {g : Gh} {n : Nat} {l : List D} {x : Value} (h : R w g (sl n l) [x]) : ∃ (A : Option Addr) (c : Nat), x = .slice A l.length c := by
 obtain ⟨A, c, _, e, _⟩ := val_slice (val_of_R (d := .slice .imm (if l.isEmpty then 0 else n) l) h rfl)
 exact ⟨A, c, e⟩
/-- a node in memory -/
theorem node_mem {w : World} {g : Gh} {t : Tr} {v : Value} (h : val w g (dN t) v) : ∃ (A : Option Addr) (c : Nat), v = .agg #[.int .u8 t.kind, .int .i64 t.num, .string t.name, .slice A t.kids.length c] ∧ R w g (.agg [.int .u8 t.kind, .int .i64 t.num, .str t.name, sl 4 (t.kids.map dN)]) [.int .u8 t.kind, .int .i64 t.num, .string t.name, .slice A t.kids.length c] := by
 rw [dN_eq] at h
 obtain ⟨us, rfl, hR⟩ := val_agg h
 have hR' := hR
 obtain ⟨x0, x1, x2, x3, rfl, r0, r1, r2, r3⟩ := R_four hR
 obtain ⟨e0, _⟩ := R_int r0
 obtain ⟨e1, _⟩ := R_int r1
 obtain ⟨e2, _⟩ := R_str r2
 obtain rfl := (List.cons.inj e0).1
 obtain rfl := (List.cons.inj e1).1
 obtain rfl := (List.cons.inj e2).1
 obtain ⟨A, c, rfl⟩ := val_sl r3
 rw [zlm] at hR' ⊢
 exact ⟨A, c, rfl, hR'⟩
/-- a program in memory -/
theorem prog_mem {w : World} {g : Gh} {p : Pg} {v : Value} (h : val w g (dG p) v) : ∃ (A1 A2 A3 : Option Addr) (c1 c2 c3 : Nat), v = .agg #[.slice A1 p.vars.length c1, .slice A2 p.procs.length c2, .int .u8 p.main.kind, .int .i64 p.main.num, .string p.main.name, .slice A3 p.main.kids.length c3] ∧
  R w g (sl 3 (p.vars.map dV)) [.slice A1 p.vars.length c1] ∧ R w g (sl 6 (p.procs.map dP)) [.slice A2 p.procs.length c2] ∧ R w g (.agg [.int .u8 p.main.kind, .int .i64 p.main.num, .str p.main.name, sl 4 (p.main.kids.map dN)]) [.int .u8 p.main.kind, .int .i64 p.main.num, .string p.main.name, .slice A3 p.main.kids.length c3] := by
 unfold dG at h
 obtain ⟨us, rfl, hR⟩ := val_agg h
 obtain ⟨x0, x1, x2, x3, x4, x5, rfl, r0, r1, r2, r3, r4, r5⟩ := R_six hR
 have r2' := r2; have r3' := r3; have r4' := r4
 obtain ⟨e2, _⟩ := R_int r2
 obtain ⟨e3, _⟩ := R_int r3
 obtain ⟨e4, _⟩ := R_str r4
 obtain rfl := (List.cons.inj e2).1
 obtain rfl := (List.cons.inj e3).1
 obtain rfl := (List.cons.inj e4).1
 obtain ⟨A1, c1, rfl⟩ := val_sl r0
 obtain ⟨A2, c2, rfl⟩ := val_sl r1
 obtain ⟨A3, c3, rfl⟩ := val_sl r5
 simp only [zlm] at *
 exact ⟨A1, A2, A3, c1, c2, c3, rfl, r0, r1, R_four' r2' r3' r4' r5⟩
theorem prog_of {w : World} {g : Gh} {p : Pg} {t : Tr} {A1 A2 A3 : Option Addr} {c1 c2 c3 n3 : Nat} (h1 : R w g (sl 3 (p.vars.map dV)) [.slice A1 p.vars.length c1]) (h2 : R w g (sl 6 (p.procs.map dP)) [.slice A2 p.procs.length c2]) (h3 : R w g (.agg [.int .u8 t.kind, .int .i64 t.num, .str t.name, sl 4 (t.kids.map dN)]) [.int .u8 t.kind, .int .i64 t.num, .string t.name, .slice A3 n3 c3]) :
  val w g (dG ⟨p.vars, p.procs, t⟩) (.agg #[.slice A1 p.vars.length c1, .slice A2 p.procs.length c2, .int .u8 t.kind, .int .i64 t.num, .string t.name, .slice A3 n3 c3]) := by
 obtain ⟨x0, x1, x2, x3, e, r0, r1, r2, r3⟩ := R_four h3
 simp only [List.cons.injEq, and_true] at e
 obtain ⟨rfl, rfl, rfl, rfl⟩ := e
 exact val.of1 ⟨_, R_six' h1 h2 r0 r1 r2 r3, rfl⟩

mutual
/-- data of numbers, strings and rows alone -/
def D.pl : D → Bool
 | .agg l => D.pls l
 | .slice o _ l => decide (o = .imm) && D.pls l
 | .int _ _ => true
 | .str _ => true
 | .bool _ => true
 | _ => false
def D.pls : List D → Bool
 | [] => true
 | d :: r => D.pl d && D.pls r
end
theorem D.pls_at : ∀ {l : List D}, D.pls l = true → ∀ (j : Nat) (h : j < l.length), D.pl l[j] = true
 | [], _, j, h => absurd h (Nat.not_lt_zero _)
 | d :: r, h, 0, _ => by simp only [D.pls, zat] at h; exact h.1
 | d :: r, h, j + 1, hj => by simp only [D.pls, zat] at h; exact D.pls_at h.2 j (by simpa using hj)
theorem D.pls_of : ∀ {l : List D}, (∀ d ∈ l, D.pl d = true) → D.pls l = true
 | [], _ => rfl
 | d :: r, h => by simp only [D.pls, zat]; exact ⟨h d (by simp), D.pls_of fun x hx => h x (by simp [hx])⟩
theorem R.pl {w : World} {g : Gh} {d : D} {cs : List Value} (h : R w g d cs) (hp : d.pl = true) : R w (okGh g.ok) d cs := by
 induction h with
 | bool b => exact .bool b
 | int k n h => exact .int k n h
 | str s h => exact .str s h
 | agg l vs hl _ ih =>
  simp only [D.pl] at hp
  exact .agg l vs hl (fun j h h' => ih j h h' (D.pls_at hp j h))
 | slice o n l A cap cs hl hm ho hnil hA _ hn hc ih =>
  simp only [D.pl, zat, decide_eq_true_eq] at hp
  obtain ⟨rfl, hp⟩ := hp
  exact .slice .imm n l A cap cs hl hm (fun s e q => by cases q) trivial trivial (fun j h => ih j h (D.pls_at hp j h)) hn hc
 | _ => simp [D.pl] at hp
theorem dN_plain (t : Tr) : (dN t).pl = true := by
 induction t using Tr.ind with
 | h k n s c ih =>
  rw [dN_eq]
  simp only [D.pl, D.pls, Tr.kids, Bool.and_true, Bool.true_and]
  exact D.pls_of fun d hd => by obtain ⟨t, ht, rfl⟩ := List.mem_map.1 hd; exact ih t ht
/-- a struct of six cells, of which four are written -/
theorem set_row {w : World} {b : Nat} {cs : Array Value} {t : TypeId} (h : w.heap[b]? = some (.cells cs t (0, 0))) (i : Nat) (u : Value) : (w.setCell ⟨b, i, none⟩ u).heap[b]? = some (.cells (cs.setIfInBounds i u) t (0, 0)) := by
 have hlt := (Array.getElem?_eq_some_iff.1 h).1
 have h' : w.heap[b] = .cells cs t (0, 0) := by simpa [Array.getElem?_eq_getElem hlt] using h
 show (w.heap.modify b _)[b]? = _
 rw [Array.getElem?_eq_getElem (by simpa using hlt), Array.getElem_modify_self, h']
 rfl
/-- nothing but strings has turned, and that into strings; blocks stay -/
structure Str (w w' : World) : Prop where
 size : w.heap.size ≤ w'.heap.size
 cell : ∀ b o u, w.cell? ⟨b, o, none⟩ = some u → (∀ s, u ≠ .string s) → w'.cell? ⟨b, o, none⟩ = some u
 str : ∀ b o s, w.cell? ⟨b, o, none⟩ = some (.string s) → ∃ s', w'.cell? ⟨b, o, none⟩ = some (.string s')
 frz : ∀ a : Addr, a.block < w.heap.size → w'.frozen? a = w.frozen? a
theorem Str.refl (w : World) : Str w w := ⟨Nat.le_refl _, fun _ _ _ h _ => h, fun _ _ s h => ⟨s, h⟩, fun _ _ => rfl⟩
theorem Str.trans {a b c : World} (h : Str a b) (k : Str b c) : Str a c := ⟨Nat.le_trans h.size k.size, fun b o u q hs => k.cell b o u (h.cell b o u q hs) hs, fun b o s q => let ⟨s', q'⟩ := h.str b o s q; k.str b o s' q', fun a ha => (k.frz a (Nat.lt_of_lt_of_le ha h.size)).trans (h.frz a ha)⟩
theorem Str.of_below {w w' : World} (h : Below w.heap.size w w') : Str w w' := ⟨h.size, fun _b _o _u q _ => keepc h q, fun _b _o s q => ⟨s, keepc h q⟩, fun _a ha => h.frozen ha⟩
theorem Str.set {w : World} {b o : Nat} {s s' : ByteArray} (h : w.cell? ⟨b, o, none⟩ = some (.string s)) : Str w (w.setCell ⟨b, o, none⟩ (.string s')) := by
 refine ⟨by simp [World.setCell], fun c x u q hu => ?_, fun c x u q => ?_, fun a _ => World.frozen?_setCell _ _ _ _⟩
 ·by_cases e : (⟨c, x, none⟩ : Addr) = ⟨b, o, none⟩
  ·rw [e, h] at q; cases q; exact absurd rfl (hu s)
  ·rw [World.cell?_setCell_other _ _ _ _ (fun q9 => e q9.symm)]; exact q
 ·by_cases e : (⟨c, x, none⟩ : Addr) = ⟨b, o, none⟩
  ·rw [e]; exact ⟨s', World.cell?_setCell_same _ _ _ h⟩
  ·rw [World.cell?_setCell_other _ _ _ _ (fun q9 => e q9.symm)]; exact ⟨u, q⟩
theorem cell_set {w : World} {b o c x : Nat} {u v : Value} (h : w.cell? ⟨b, o, none⟩ = some v) (hv : w.cell? ⟨c, x, none⟩ = some u) : (w.setCell ⟨b, o, none⟩ u).cell? ⟨c, x, none⟩ = some u := by
 by_cases e : (⟨c, x, none⟩ : Addr) = ⟨b, o, none⟩
 ·rw [e]; exact World.cell?_setCell_same _ _ _ h
 ·rw [World.cell?_setCell_other _ _ _ _ (fun q9 => e q9.symm)]; exact hv
theorem Below.set {B b o : Nat} {w w' : World} (h : Below B w w') (hb : B ≤ b) (u : Value) : Below B w (w'.setCell ⟨b, o, none⟩ u) :=
 ⟨h.os, h.tape, h.output, by simpa [World.setCell] using h.size, fun k hk => (Below.heap_setCell _ _ _ _ (fun e => by have : k = b := e; omega)).trans (h.block k hk)⟩
/-- all cells there are -/
def allOk (w : World) : Nat → Nat → Prop := fun b _ => b < w.heap.size
theorem cell_lt {w : World} {b o : Nat} {u : Value} (h : w.cell? ⟨b, o, none⟩ = some u) : b < w.heap.size := World.block_lt_of_cell? w _ h
/-- a path is read as it was -/
theorem R_path {w w' : World} {g : Gh} (hs : Str w w') {path : List Int} {x : Value} (h : R w g (sl 1 (path.map dI)) [x]) : R w' (okGh (allOk w')) (sl 1 (path.map dI)) [x] := by
 have key : ∀ d cs, R w g d cs → d = sl 1 (path.map dI) → R w' (okGh (allOk w')) d cs := by
  intro d cs h e
  subst e
  obtain ⟨A, cap, c, hv, hl, hm, _, _, _, hr, hn, hc⟩ := (show ∃ (A : Option Addr) (cap : Nat) (c : Nat → List Value), cs = [.slice A (path.map dI).length cap] ∧ (path.map dI).length ≤ cap ∧ cap ≤ 9223372036854775807 ∧ True ∧ True ∧ True ∧ (∀ (j : Nat) (h : j < (path.map dI).length), R w g (path.map dI)[j] (c j)) ∧ (∀ j, j < (path.map dI).length → (c j).length = (if (path.map dI).isEmpty = true then 0 else 1)) ∧ ∀ j, j < (path.map dI).length → ∃ b off, A = some ⟨b, off, none⟩ ∧ ∀ m u, (c j)[m]? = some u → g.ok b (off + j * (if (path.map dI).isEmpty = true then 0 else 1) + m) ∧ w.cell? ⟨b, off + j * (if (path.map dI).isEmpty = true then 0 else 1) + m, none⟩ = some u from by
   unfold sl at h
   cases h with
   | slice _ _ _ A cap c hl hm _ _ _ hr hn hc => exact ⟨A, cap, c, rfl, hl, hm, trivial, trivial, trivial, hr, hn, hc⟩)
  subst hv
  unfold sl
  refine .slice .imm _ _ A cap c hl hm (fun _ _ q => by cases q) trivial trivial (fun j hj => ?_) hn (fun j hj => ?_)
  ·have hj' : j < path.length := by simpa using hj
   have hk : ∀ l, R w g (.int .i64 path[j]) l → R w' (okGh (allOk w')) (.int .i64 path[j]) l := fun l q => by
    cases q with
    | int _ _ hi => exact .int _ _ hi
   have := hr j hj
   rw [List.getElem_map] at this ⊢
   exact hk _ this
  ·obtain ⟨b, off, e, hh⟩ := hc j hj
   refine ⟨b, off, e, fun m u hu => ?_⟩
   have h9 := (hh m u hu).2
   have hj' : j < path.length := by simpa using hj
   have hns : ∀ s, u ≠ .string s := by
    have hrj := hr j hj
    rw [List.getElem_map] at hrj
    have : ∀ l : List Value, R w g (.int .i64 path[j]) l → ∀ x ∈ l, ∀ s, x ≠ .string s := fun l q x hx s => by
     cases q with
     | int _ _ _ => rw [List.mem_singleton] at hx; subst hx; intro e; cases e
    exact this _ hrj u (List.mem_of_getElem? hu)
   have h10 := hs.cell _ _ _ h9 hns
   exact ⟨cell_lt h10, h10⟩
 exact key _ _ h rfl
/-- what of a row of faults is known in memory -/
theorem row_at {w : World} {g : Gh} {o : Own} {n : Nat} {M : List D} {va : Value} {L : List Ft} (hv : val w g (.slice o n M) va) (hL : Lis M L) : ∃ (A : Option Addr) (ca : Nat), va = .slice A L.length ca ∧ L.length ≤ ca ∧ ca ≤ 9223372036854775807 ∧ ∀ (j : Nat) (h : j < L.length), ∃ b off x1, A = some ⟨b, off, none⟩ ∧ inr .i64 L[j].proc ∧ inr .i64 L[j].err ∧ R w g (sl 1 (L[j].path.map dI)) [x1] ∧ (∀ s, x1 ≠ .string s) ∧
  w.cell? ⟨b, off + j * 4, none⟩ = some (.int .i64 L[j].proc) ∧ w.cell? ⟨b, off + j * 4 + 1, none⟩ = some x1 ∧ w.cell? ⟨b, off + j * 4 + 2, none⟩ = some (.int .i64 L[j].err) ∧ w.cell? ⟨b, off + j * 4 + 3, none⟩ = some (.string L[j].name) := by
 obtain ⟨A, ca, cs, e, hle, hm, _, _, _, hr, hn, hc⟩ := val_slice hv
 have hlen := hL.len
 rw [hlen] at e hle
 refine ⟨A, ca, e, hle, hm, fun j hj => ?_⟩
 have hj' : j < M.length := by omega
 have hu : M[j].under 0 = true := by
  have := hL.u
  rw [D.unders_all, List.all_eq_true] at this
  exact this _ (List.getElem_mem hj')
 have hs : M[j].strip = dFt L[j] := by
  have h1 := hL.s
  have h2 : (M.map D.strip)[j]'(by simpa using hj') = (L.map dFt)[j]'(by simpa using hj) := by simp only [h1]
  simpa using h2
 have hR := (hr j hj').free hu g ⟨fun _ _ q => q, fun _ q => q, fun _ _ q => q⟩
 rw [hs] at hR
 unfold dFt at hR
 obtain ⟨x0, x1, x2, x3, ec, r0, r1, r2, r3⟩ := R_four hR
 obtain ⟨e0, i0⟩ := R_int r0
 obtain ⟨e2, i2⟩ := R_int r2
 obtain ⟨e3, _⟩ := R_str r3
 obtain rfl := (List.cons.inj e0).1
 obtain rfl := (List.cons.inj e2).1
 obtain rfl := (List.cons.inj e3).1
 have h4 : n = 4 := by have := hn j hj'; rw [ec] at this; exact this.symm
 subst h4
 obtain ⟨b, off, eA, hh⟩ := hc j hj'
 rw [ec] at hh
 obtain ⟨A', c', ex⟩ := val_sl r1
 refine ⟨b, off, x1, eA, i0, i2, r1, fun s q => (by rw [ex] at q; cases q), ?_, ?_, ?_, ?_⟩
 ·exact (hh 0 _ rfl).2
 ·exact (hh 1 _ rfl).2
 ·exact (hh 2 _ rfl).2
 ·exact (hh 3 _ rfl).2
/-- the row of faults, its names struck -/
theorem row_clr {w w' : World} {g : Gh} {o : Own} {n : Nat} {M : List D} {va : Value} {L : List Ft} (hv : val w g (.slice o n M) va) (hL : Lis M L) (hs : Str w w') (hn : ∀ (A : Option Addr) (ca : Nat), va = .slice A L.length ca → ∀ j, j < L.length → ∃ b off, A = some ⟨b, off, none⟩ ∧ w'.cell? ⟨b, off + j * 4 + 3, none⟩ = some (.string emS)) :
  val w' (okGh (allOk w')) (sl 4 ((L.map clr).map dFt)) va := by
 obtain ⟨A, ca, rfl, hle, hm, hat⟩ := row_at hv hL
 have hn' := hn A ca rfl
 have hlen : ((L.map clr).map dFt).length = L.length := by simp
 have key : ∀ (j : Nat), ∃ (t : Nat × Nat × Value), ∀ (hj : j < L.length), A = some ⟨t.1, t.2.1, none⟩ ∧ R w' (okGh (allOk w')) (dFt (clr L[j])) [.int .i64 L[j].proc, t.2.2, .int .i64 L[j].err, .string emS] ∧ ∀ m u, [Value.int .i64 L[j].proc, t.2.2, .int .i64 L[j].err, .string emS][m]? = some u → w'.cell? ⟨t.1, t.2.1 + j * 4 + m, none⟩ = some u := fun j => by
  by_cases hj : j < L.length
  rotate_left
  ·exact ⟨(0, 0, .bool true), fun h => absurd h hj⟩
  obtain ⟨b, off, x1, e, i0, i2, r1, hx, k0, k1, k2, k3⟩ := hat j hj
  obtain ⟨b', off', e', k3'⟩ := hn' j hj
  rw [e] at e'
  simp only [Option.some.injEq, Addr.mk.injEq, and_true] at e'
  obtain ⟨rfl, rfl⟩ := e'
  refine ⟨(b, off, x1), fun _ => ⟨e, R_four' (.int _ _ i0) (R_path hs r1) (.int _ _ i2) (.str _ (by show emS.size ≤ _; decide)), fun m u hu => ?_⟩⟩
  match m, hu with
  | 0, hu => cases hu; exact hs.cell _ _ _ k0 (fun s q => by cases q)
  | 1, hu => cases hu; exact hs.cell _ _ _ k1 hx
  | 2, hu => cases hu; exact hs.cell _ _ _ k2 (fun s q => by cases q)
  | 3, hu => cases hu; exact k3'
  | m + 4, hu => simp at hu
 obtain ⟨kt, hkt⟩ := Classical.axiomOfChoice key
 have h9 := R.slice (w := w') (g := okGh (allOk w')) .imm (if ((L.map clr).map dFt).isEmpty = true then 0 else 4) ((L.map clr).map dFt) A ca (fun j => if h : j < L.length then [.int .i64 L[j].proc, (kt j).2.2, .int .i64 L[j].err, .string emS] else []) (by rw [hlen]; exact hle) hm (fun _ _ q => by cases q) trivial trivial
  (fun j hj => by
   have hj' : j < L.length := by rw [← hlen]; exact hj
   rw [dif_pos hj']
   simp only [List.getElem_map]
   exact (hkt j hj').2.1)
  (fun j hj => by
   have hj' : j < L.length := by rw [← hlen]; exact hj
   rw [dif_pos hj', sl_n (j := j) hj]; rfl)
  (fun j hj => by
   have hj' : j < L.length := by rw [← hlen]; exact hj
   rw [dif_pos hj', sl_n (j := j) hj]
   exact ⟨(kt j).1, (kt j).2.1, (hkt j hj').1, fun m u hu => ⟨cell_lt ((hkt j hj').2.2 m u hu), (hkt j hj').2.2 m u hu⟩⟩)
 rw [hlen] at h9
 exact val_of_R h9 rfl

end Go.Proofs.Ytmglacjcefajlaa

/- checker.Check in memory: its result is a row of its own. -/
namespace Go.Proofs.Ytmglacjcefajlaa
open Go.RowKit
set_option maxRecDepth 100000 in
set_option maxHeartbeats 4000000 in
theorem chk_own (p : Pg) {ok0 : Nat → Nat → Prop} {w : World} {vp : Value} (hok : ∀ b o, ok0 b o → b < w.heap.size) (hp : val w (okGh ok0) (dG p) vp) :
  Calls Try.prog 13 #[vp] w fun e w' => ∃ v o n M g', e = .returned v ∧ Below w.heap.size w w' ∧ val w' g' (.slice o n M) v ∧ Lis M (chkF p) ∧ (∀ b o, g'.ok b o → ok0 b o ∨ (w.heap.size ≤ b ∧ b < w'.heap.size)) ∧ (M ≠ [] → ∃ b cap, v = .slice (some ⟨b, 0, none⟩) M.length cap ∧ w.heap.size ≤ b ∧ b < w'.heap.size ∧ ∀ i, w'.frozen? ⟨b, i, none⟩ = false) := by
 refine own_calls (f := _) (Φ := fun M => Lis M (chkF p)) (et := 43) (sz := 4) EV_ok Try.func13 rfl (by kernel_rfl) ?_ hok (vals_one_of hp)
 simp only [enterSt, Try.ntmps13, zlc, zln, Nat.reduceAdd, Nat.reduceSub, zr1, zr0, zca, zna]
 refine X_seq ?_
 refine X_rg fun R hR => ?_
 simp only [aops, astep, awant, aeff, aop, ev, ofValue, St.put, zg0, zgd, zmo, if_true, zs1, zs0, zln, zna, dG_cells, dG_good]
 with_reducible refine hR _ ?_
 clear hR R
 show X _ _ _ _
 refine X_seq ?_
 refine X_seq ?_
 have hV := valid_fn p
 have hF := check_fn p
 refine X_y ?_
 refine Y_k 4 fun R hR => ?_
 simp only [EVP, aops, astep, awant, aeff, aop, mkD, ev, St.put, pcall, zmc, zmn, zg1, zg0, zgd, zmo, if_true, zs1, zs0, zlc, zln, zd0, zt1, zt0, zca, zna, Nat.reduceAdd, Nat.reduceLeDiff, Nat.zero_add, ty_api_Program, any14, dG_agg, hV]
 with_reducible refine hR _ ?_
 clear hR R
 simp only [zd1, zd0]
 refine Y_if 9 (by simp only [ev, zg1, zg0, zgd]; exact rfl) ?_ ?_
 ·intro b1
  have c1 := b1
  try simp only [znt] at c1
  refine Y_end fun R hR => ?_
  simp only [EVP, inr_i64, Int.reduceLE, Int.reduceNeg, aops, astep, awant, aeff, aop, abin, mkD, ev, ofValue, St.put, pcall, zmc, zmn, zg1, zg0, zgd, zmo, Option.map_none, zbs, if_true, zs1, zs0, zlc, zln, zd0, zt1, zt0, zca, zna, Nat.reduceAdd, Nat.reduceLeDiff, Nat.zero_add, zft, if_false, and_self, bq_tf, ty_api_Program, und_scope_Fault, any15, dG_agg, b1]
  with_reducible refine hR _ ?_
  clear hR R
  show X _ _ _ _
  refine X_true (by simp only [ev, zg1, zg0, zgd]) ?_
  refine X_seq ?_
  refine X_rg fun R hR => ?_
  simp only [aops, astep, awant, aeff, aop, ev, ofValue, St.put, zgd, zmo, if_true, zs1, zs0]
  with_reducible refine hR _ ?_
  clear hR R
  show X _ _ _ _
  refine X_ret ?_
  refine ⟨.inr rfl, .nil, 0, [], ?_, .inl ⟨rfl, rfl, rfl⟩, ?_⟩
  ·simp only [resD, resAll, resOne, resTup, Try.results13, EVP, zg1, zg0, D.good, if_true, zmo]
  ·have hch : chkF p = [] := by unfold chkF; rw [if_neg (by rintro ⟨q1, q2⟩; simp_all)]
   rw [hch]; exact Lis.nil
 ·intro b2
  have c2 := b2
  try simp only [znf] at c2
  refine Y_end fun R hR => ?_
  simp only [EVP, inr_i64, Int.reduceLE, Int.reduceNeg, aops, astep, awant, aeff, aop, abin, aint, mkD, ev, ofValue, St.put, pcall, zmc, zmn, zg1, zg0, zgd, zmo, zbs, if_true, zs1, zs0, zlm, zlc, zln, zd0, zt1, zt0, zca, zna, Nat.reduceAdd, Nat.reduceLeDiff, Nat.zero_add, zft, if_false, and_self, beq_self_eq_true, ty_api_Program, und_scope_Fault, any15, sl, dG_agg, b2, hF]
  with_reducible refine hR _ ?_
  clear hR R
  show X _ _ _ _
  refine X_ite (by simp only [ev, zg1, zg0, zgd]; exact rfl) ?_ ?_
  ·intro b3
   have c3 := b3
   try simp only [decide_eq_true_eq, gt_iff_lt] at c3
   refine X_seq ?_
   refine X_rg fun R hR => ?_
   simp only [aops, astep, awant, aeff, aop, ev, ofValue, St.put, zgd, zmo, if_true, zs1, zs0, b3]
   with_reducible refine hR _ ?_
   clear hR R
   show X _ _ _ _
   refine X_ret ?_
   refine ⟨.inr rfl, .nil, 0, [], ?_, .inl ⟨rfl, rfl, rfl⟩, ?_⟩
   ·simp only [resD, resAll, resOne, resTup, Try.results13, EVP, zg1, zg0, D.good, if_true, zmo]
   ·have hch : chkF p = [] := by unfold chkF; rw [if_neg (by rintro ⟨q1, q2⟩; simp_all)]
    rw [hch]; exact Lis.nil
  ·intro b4
   have c4 := b4
   try simp only [decide_eq_false_iff_not, Int.not_lt, gt_iff_lt] at c4
   refine X_skip ?_
   show X _ _ _ _
   refine X_seq ?_
   refine X_rg fun R hR => ?_
   simp only [aops, astep, awant, aeff, aop, ev, ofValue, St.put, zgd, zmo, if_true, zs1, zs0, b4]
   with_reducible refine hR _ ?_
   clear hR R
   show X _ _ _ _
   refine X_seq ?_
   refine X_seq ?_
   have hv : validB p = true := by first | assumption | (simp_all; done)
   obtain ⟨bv, bp, bq, bm, _⟩ := valid_bd hv
   have hB := ok_block hv
   have hno : checkF p = [] := by cases hc : checkF p with | nil => rfl | cons a b => (exfalso; simp_all; done)
   refine X_rg fun R hR => ?_
   simp only [EVP, inr_i64, Int.reduceLE, Int.reduceNeg, aops, astep, awant, aeff, aop, mkD, ev, ofValue, St.put, ia_slice, zg1, zg0, zgd, zmo, if_true, zs1, zs0, zlm, zlc, zln, zd1, zd0, zt1, zt0, Nat.reduceAdd, Nat.reduceLeDiff, Nat.zero_add, zft, if_false, and_self, reduceCtorEq, ty_s_api_Proc, ty_api_Program, und_api_Proc]
   with_reducible refine hR _ ?_
   clear hR R
   show X _ _ _ _
   refine X_block ?_
   refine X_loop (fun m σ => ∃ (i : Nat) (r : List (List D)) (o : Own) (n : Nat) (M : List D) (F : List Ft) (nx : Nat) (lv : List Nat), σ = ⟨[slotOf σ 0, .ptr 0 0, slotOf σ 2, .slice o n M, slotOf σ 4, slotOf σ 5, slotOf σ 6, slotOf σ 7, slotOf σ 8, slotOf σ 9, slotOf σ 10, slotOf σ 11, slotOf σ 12, slotOf σ 13, slotOf σ 14, slotOf σ 15, .slice .imm (if (p.procs.map dP).isEmpty = true then 0 else 6) (p.procs.map dP), .int .i64 p.procs.length, .int .i64 i, slotOf σ 19, slotOf σ 20, slotOf σ 21, slotOf σ 22, slotOf σ 23, slotOf σ 24, slotOf σ 25, slotOf σ 26, slotOf σ 27, slotOf σ 28, slotOf σ 29, slotOf σ 30, slotOf σ 31, slotOf σ 32, slotOf σ 33, slotOf σ 34], [.slice .imm (if (p.vars.map dV).isEmpty = true then 0 else 3) (p.vars.map dV), .slice .imm (if (p.procs.map dP).isEmpty = true then 0 else 6) (p.procs.map dP), .int .u8 p.main.kind, .int .i64 p.main.num, .str p.main.name, .slice .imm (if (p.main.kids.map dN).isEmpty = true then 0 else 4) (p.main.kids.map dN)] :: r, nx, lv⟩ ∧ m = p.procs.length - i ∧ i ≤ p.procs.length ∧ Hid (AccB 43 4 o n M nx lv) ∧ Hid (Lis M F) ∧ Hid (F ++ rejsF (p.procs.drop i) i = rejsF p.procs 0) ∧ F.length ≤ 2000 * i) ?_ (p.procs.length) _ ?_
   rotate_left
   ·exact ⟨0, [], .nil, 0, [], [], 0, [], rfl, rfl, Nat.zero_le _, Lib.hid (.nil _ _ _ _), Lib.hid .nil, Lib.hid rfl, Nat.le_refl _⟩
   rintro m σ ⟨i, r, o, n, M, F, nx, lv, hσ, rfl, hi, ha, hli, hFF, hl⟩
   generalize slotOf σ = x at hσ
   subst hσ
   refine X_seq ?_
   refine X_rg fun R hR => ?_
   simp only [nat_lt, aops, astep, awant, aeff, aop, abin, aint, ev, St.put, zg1, zg0, zgd, zmo, if_true, zs1, zs0]
   with_reducible refine hR _ ?_
   clear hR R
   show X _ _ _ _
   refine X_seq ?_
   refine X_ite (by simp only [ev, zg1, zg0, zgd]; exact rfl) ?_ ?_
   ·intro b5
    have c5 := b5
    try simp only [decide_eq_true_eq] at c5
    refine X_skip ?_
    show X _ _ _ _
    refine X_seq ?_
    refine X_block ?_
    refine X_seq ?_
    have hlt : i < p.procs.length := by first | assumption | omega
    have hn1 : ((if (p.procs.map dP).isEmpty = true then 0 else 6) = 6) = True := eq_true (sl_n (j := i) (by simpa using hlt))
    have e1 : (p.procs.map dP)[i]? = some (dP p.procs[i]) := by simp [hlt]
    obtain ⟨bq1, bq2, _⟩ := bq p.procs[i] (List.getElem_mem hlt)
    refine X_rg fun R hR => ?_
    simp only [EVP, app_get0, app_set0, nat_lt, nat_0, nat_to, aops, astep, awant, aeff, aop, astore, ev, St.put, gd_agg, ia_agg, cl_agg, zg1, zg0, zgd, zmo, zbs, if_true, zs1, zs0, zlm, zlc, zln, zd1, zd0, zt0, zca, zna, Nat.reduceAdd, Nat.reduceLeDiff, Nat.zero_add, and_self, decide_true, zis, ty_api_Proc, und_api_Proc, siz_api_Proc, inf_api_Proc_eq, sl, dP, hlt, hn1, e1]
    with_reducible refine hR _ ?_
    clear hR R
    show X _ _ _ _
    have hcb := cbody_fn (i : Int) p.procs[i].body (hB.2 _ (List.getElem_mem hlt)) (by omega)
    simp only [sl] at hcb
    have hbl := bodyF_len i p.procs[i].body
    obtain ⟨o5, n5, nx5, lv5, ha5, hap5⟩ := ha.out.appE (P := Try.prog) (t := 31) und_checker_Rejection inf_checker_Rejection_eq inf_checker_Rejection_size (by omega) (by rw [inf_checker_Rejection_bytes]; omega) inf_checker_Rejection_zc ((bodyF i p.procs[i].body).map dFt) (by have := hli.out.len; simp; omega)
    refine X_rg fun R hR => ?_
    simp only [EVP, app_get0, aops, astep, awant, aeff, aop, mkD, ev, St.put, pcall, zmc, zmn, zg1, zg0, zgd, zmo, if_true, zs1, zs0, zlc, zln, zd1, zd0, zt1, zt0, zca, zna, Nat.reduceAdd, Nat.reduceLeDiff, Nat.zero_add, if_false, reduceCtorEq, ty_api_Node, ty_api_Proc, any29, dN_agg, hcb, hap5]
    with_reducible refine hR _ ?_
    clear hR R
    show X _ _ _ _
    have hbig : i < 9223372036854775807 := by omega
    refine X_rg fun R hR => ?_
    simp only [inr_i64, Int.reduceLE, Int.reduceNeg, aops, astep, awant, aeff, aop, abin, aint, ev, ofValue, St.put, zg1, zg0, zgd, zmo, if_true, zs1, zs0, and_self, nat_succ hbig]
    with_reducible refine hR _ ?_
    clear hR R
    show ∃ m, m < _ ∧ _
    exact ⟨p.procs.length - (i + 1), by omega, i + 1, _, o5, n5, _, F ++ bodyF i p.procs[i].body, nx5, lv5, rfl, rfl, by omega, Lib.hid ha5, Lib.hid (hli.out.app (.of _)), Lib.hid (by rw [← hFF.out, rejsF_drop p.procs i hlt, zaa]), by rw [zla]; omega⟩
   ·intro b6
    have c6 := b6
    try simp only [decide_eq_false_iff_not] at c6
    refine X_exit ?_
    show X _ _ _ _
    refine X_seq ?_
    have hcb := cbody_fn (-1) p.main hB.1 (by omega)
    simp only [sl] at hcb
    have hbl := bodyF_len (-1) p.main
    obtain ⟨o5, n5, nx5, lv5, ha5, hap5⟩ := ha.out.appE (P := Try.prog) (t := 31) und_checker_Rejection inf_checker_Rejection_eq inf_checker_Rejection_size (by omega) (by rw [inf_checker_Rejection_bytes]; omega) inf_checker_Rejection_zc ((bodyF (-1) p.main).map dFt) (by have := hli.out.len; simp; omega)
    refine X_rg fun R hR => ?_
    simp only [EVP, inr_i64, Int.reduceLE, Int.reduceNeg, aops, astep, awant, aeff, aop, mkD, ev, ofValue, St.put, pcall, zmc, zmn, zg1, zg0, zgd, zmo, if_true, zs1, zs0, zlc, zln, zd1, zd0, zt1, zt0, zca, zna, Nat.reduceAdd, Nat.reduceLeDiff, Nat.zero_add, if_false, and_self, reduceCtorEq, ty_api_Node, ty_api_Program, any29, dN_agg, b6, hcb, hap5]
    with_reducible refine hR _ ?_
    clear hR R
    show X _ _ _ _
    refine X_ret ?_
    have hT : F = rejsF p.procs 0 := by have h1 := hFF.out; rw [List.drop_of_length_le (by omega)] at h1; simpa only [rejsF, List.append_nil] using h1
    have hLi := hli.out.app (.of (bodyF (-1) p.main))
    refine ⟨.inr rfl, o5, n5, M ++ (bodyF (-1) p.main).map dFt, ?_, ha5.a, ?_⟩
    ·simp only [resD, resAll, resOne, resTup, Try.results13, EVP, zg1, zg0, D.good, if_true, zmo]
    ·rw [show chkF p = rejsF p.procs 0 ++ bodyF (-1) p.main from if_pos ⟨hv, hno⟩, ← hT]; exact hLi

end Go.Proofs.Ytmglacjcefajlaa

/- The law CheckerSwap: its walk in memory. -/
namespace Go.Proofs.Ytmglacjcefajlaa
open Go.RowKit

set_option maxRecDepth 100000 in
set_option maxHeartbeats 2000000 in
theorem law6_mem (p : Pg) {ok0 : Nat → Nat → Prop} {w : World} {vp : Value} (hok : ∀ b o, ok0 b o → b < w.heap.size) (hp : val w (okGh ok0) (dG p) vp) :
  Calls Try.prog 8 #[vp] w fun e w' => e = .returned (.bool true) ∧ Below w.heap.size w w' := by
 have hmo : Try.prog.follows .mixedOrders = true := by kernel_rfl
 have hfn : ∀ f, Fence.wide.fn f := fun _ => trivial
 have hdp : Fence.wide.depth.isSome = false := rfl
 obtain ⟨A1, A2, A3, c1, c2, c3, rfl, hpv, hpq, hpm⟩ := prog_mem hp
 have hbW : Below w.heap.size w (w.alloc (.cells #[.slice A1 p.vars.length c1, .slice A2 p.procs.length c2, .int .u8 p.main.kind, .int .i64 p.main.num, .string p.main.name, .slice A3 p.main.kids.length c3] 28)) := (Below.refl _ w).alloc (Nat.le_refl _) _
 have hnew := heap_alloc_new w (.cells #[.slice A1 p.vars.length c1, .slice A2 p.procs.length c2, .int .u8 p.main.kind, .int .i64 p.main.num, .string p.main.name, .slice A3 p.main.kids.length c3] 28)
 have HP := Lib.hid hp
 have HOK := Lib.hid hok
 have HBW := Lib.hid hbW
 have HPV := Lib.hid hpv
 have HPQ := Lib.hid hpq
 have HPM := Lib.hid hpm
 clear hp hbW hok hpv hpq hpm
 go_enter Try.func8, Try.ntmps8
 go_wp2_with fail
 refine (calls_of_fn' awake_ok (ok := fun _ _ => False) (fun b o q => q.elim) vals_nil_of).mono ?_
 rintro e w1 ⟨u, g', rfl, hb1, hd, _⟩
 obtain rfl := val_bool hd
 have hsz1 := hb1.size
 simp only [World.size_alloc] at hsz1
 have bx1 := (hb1.block w.heap.size (by simp)).trans hnew
 obtain ⟨xa0, xa1, xa2, xa3, xa4, xa5⟩ := six_at bx1
 have HB1 := Lib.hid (HBW.out.trans (hb1.mono (by simp)))
 clear hb1 hd hnew
 go_wp2_with fail
 obtain ⟨dg, hG, g, rfl, hqq⟩ := great_q p
 refine (calls_of_fn' hG (ok := ok0) (fun b o q => by have := HOK.out b o q; omega) (vals_one_of (val.move (fun _ _ q => q) (fun b o q => HB1.out.cell (p := ⟨b, o, none⟩) (HOK.out b o q)) HB1.out.size HP.out))).mono ?_
 rintro e w2 ⟨u, g', rfl, hb2, hd, _⟩
 obtain ⟨rfl, _⟩ := val_int hd
 have hsz2 := hb2.size
 have bx2 := (hb2.block w.heap.size (by omega)).trans bx1
 have HB2 := Lib.hid (HB1.out.trans (hb2.mono (by omega)))
 clear xa0 xa1 xa2 xa3 xa4 xa5 bx1
 obtain ⟨xa0, xa1, xa2, xa3, xa4, xa5⟩ := six_at bx2
 clear hb2 hd
 by_cases hg1 : g = 1
 ·subst hg1
  go_wp2_with fail
  go_ret
  exact ⟨rfl, HB2.out⟩
 ·obtain ⟨hp5, hm2, hbs⟩ := hqq.resolve_left hg1
  have bW := (Below.heap_alloc w2 (.cells #[.slice A1 p.vars.length c1, .slice A2 p.procs.length c2, .int .u8 p.main.kind, .int .i64 p.main.num, .string p.main.name, .slice A3 p.main.kids.length c3] 28) w.heap.size (by omega)).trans bx2
  have bQ := heap_alloc_new w2 (.cells #[.slice A1 p.vars.length c1, .slice A2 p.procs.length c2, .int .u8 p.main.kind, .int .i64 p.main.num, .string p.main.name, .slice A3 p.main.kids.length c3] 28)
  have hbQ : Below w2.heap.size w2 (w2.alloc (.cells #[.slice A1 p.vars.length c1, .slice A2 p.procs.length c2, .int .u8 p.main.kind, .int .i64 p.main.num, .string p.main.name, .slice A3 p.main.kids.length c3] 28)) := (Below.refl _ w2).alloc (Nat.le_refl _) _
  obtain ⟨ya0, ya1, ya2, ya3, ya4, ya5⟩ := six_at bW
  obtain ⟨za0, za1, za2, za3, za4, za5⟩ := six_at bQ
  have hmW : val (w2.alloc (.cells #[.slice A1 p.vars.length c1, .slice A2 p.procs.length c2, .int .u8 p.main.kind, .int .i64 p.main.num, .string p.main.name, .slice A3 p.main.kids.length c3] 28)) (okGh ok0) (dN p.main) (.agg #[.int .u8 p.main.kind, .int .i64 p.main.num, .string p.main.name, .slice A3 p.main.kids.length c3]) := by
   have h0 : val w (okGh ok0) (dN p.main) (.agg #[.int .u8 p.main.kind, .int .i64 p.main.num, .string p.main.name, .slice A3 p.main.kids.length c3]) := by rw [dN_eq]; exact val.of1 ⟨_, HPM.out, rfl⟩
   exact val.move (fun _ _ q => q) (fun b o q => (HB2.out.trans (hbQ.mono (by omega))).cell (p := ⟨b, o, none⟩) (HOK.out b o q)) (by have := HB2.out.size; simp; omega) h0
  go_wp2_with fail
  refine (calls_of_pc (swap_any p.main (by omega)) (ok := ok0) (fun b o q => by have := HOK.out b o q; simp; omega) (vals_one_of hmW)).mono ?_
  rintro e w3 ⟨u, g3, rfl, hb3, hd3, hg3⟩
  obtain ⟨A4, c4, rfl, hR4⟩ := node_mem hd3
  rw [swT_kind, swT_num, swT_name, swT_len] at hR4 ⊢
  have hsz3 := hb3.size
  simp only [World.size_alloc] at hsz3
  have bP3 := (hb3.block w.heap.size (by simp; omega)).trans bW
  have bQ3 := (hb3.block w2.heap.size (by simp)).trans bQ
  have HB3 := Lib.hid (HB2.out.trans ((hbQ.trans (hb3.mono (by simp))).mono (by omega)))
  have HR4 := Lib.hid hR4
  clear xa0 xa1 xa2 xa3 xa4 xa5 ya0 ya1 ya2 ya3 ya4 ya5 za0 za1 za2 za3 za4 za5 hb3 hbQ bW bQ bx2 hd3 hmW hR4
  obtain ⟨xa0, xa1, xa2, xa3, xa4, xa5⟩ := six_at bP3
  obtain ⟨ya0, ya1, ya2, ya3, ya4, ya5⟩ := six_at bQ3
  have fz2 := frz_row bQ3 2
  have fz3 := frz_row bQ3 3
  have fz4 := frz_row bQ3 4
  have fz5 := frz_row bQ3 5
  go_wp2_with fail
  have hQ4 : ((((w3.setCell ⟨w2.heap.size, 2, none⟩ (.int .u8 p.main.kind)).setCell ⟨w2.heap.size, 3, none⟩ (.int .i64 p.main.num)).setCell ⟨w2.heap.size, 4, none⟩ (.string p.main.name)).setCell ⟨w2.heap.size, 5, none⟩ (.slice A4 p.main.kids.length c4)).heap[w2.heap.size]? = some (.cells #[.slice A1 p.vars.length c1, .slice A2 p.procs.length c2, .int .u8 p.main.kind, .int .i64 p.main.num, .string p.main.name, .slice A4 p.main.kids.length c4] 28 (0, 0)) := set_row (set_row (set_row (set_row bQ3 2 _) 3 _) 4 _) 5 _
  have ho4 : ∀ k, k ≠ w2.heap.size → ((((w3.setCell ⟨w2.heap.size, 2, none⟩ (.int .u8 p.main.kind)).setCell ⟨w2.heap.size, 3, none⟩ (.int .i64 p.main.num)).setCell ⟨w2.heap.size, 4, none⟩ (.string p.main.name)).setCell ⟨w2.heap.size, 5, none⟩ (.slice A4 p.main.kids.length c4)).heap[k]? = w3.heap[k]? := fun k hk => (Below.heap_setCell _ _ _ _ hk).trans ((Below.heap_setCell _ _ _ _ hk).trans ((Below.heap_setCell _ _ _ _ hk).trans (Below.heap_setCell _ _ _ _ hk)))
  have hz4 : ((((w3.setCell ⟨w2.heap.size, 2, none⟩ (.int .u8 p.main.kind)).setCell ⟨w2.heap.size, 3, none⟩ (.int .i64 p.main.num)).setCell ⟨w2.heap.size, 4, none⟩ (.string p.main.name)).setCell ⟨w2.heap.size, 5, none⟩ (.slice A4 p.main.kids.length c4)).heap.size = w3.heap.size := by simp [World.setCell]
  have hb4 : Below w.heap.size w ((((w3.setCell ⟨w2.heap.size, 2, none⟩ (.int .u8 p.main.kind)).setCell ⟨w2.heap.size, 3, none⟩ (.int .i64 p.main.num)).setCell ⟨w2.heap.size, 4, none⟩ (.string p.main.name)).setCell ⟨w2.heap.size, 5, none⟩ (.slice A4 p.main.kids.length c4)) := Below.set (Below.set (Below.set (Below.set HB3.out (by omega) _) (by omega) _) (by omega) _) (by omega) _
  clear xa0 xa1 xa2 xa3 xa4 xa5 ya0 ya1 ya2 ya3 ya4 ya5 fz2 fz3 fz4 fz5
  generalize ((((w3.setCell ⟨w2.heap.size, 2, none⟩ (.int .u8 p.main.kind)).setCell ⟨w2.heap.size, 3, none⟩ (.int .i64 p.main.num)).setCell ⟨w2.heap.size, 4, none⟩ (.string p.main.name)).setCell ⟨w2.heap.size, 5, none⟩ (.slice A4 p.main.kids.length c4)) = W4 at hQ4 ho4 hz4 hb4 ⊢
  have hP4 := (ho4 w.heap.size (by omega)).trans bP3
  -- the second program
  have hokQ : ∀ b o, (ok0 b o ∨ (w2.heap.size + 1 ≤ b ∧ b < w3.heap.size)) → b < W4.heap.size ∧ b ≠ w2.heap.size := fun b o q => by
   rcases q with q | q
   ·have := HOK.out b o q; omega
   ·omega
  have hq4 : val W4 (okGh fun b o => ok0 b o ∨ (w2.heap.size + 1 ≤ b ∧ b < w3.heap.size)) (dG (swP p)) (.agg #[.slice A1 p.vars.length c1, .slice A2 p.procs.length c2, .int .u8 p.main.kind, .int .i64 p.main.num, .string p.main.name, .slice A4 p.main.kids.length c4]) := by
   have e1 : Ext (okGh ok0) w (okGh fun b o => ok0 b o ∨ (w2.heap.size + 1 ≤ b ∧ b < w3.heap.size)) W4 := OkGh.ext (fun b o q => .inl q) (fun b o q => hb4.cell (p := ⟨b, o, none⟩) (HOK.out b o q)) (by omega)
   have hpl : (D.agg [.int .u8 p.main.kind, .int .i64 p.main.num, .str p.main.name, sl 4 ((swT p.main).kids.map dN)]).pl = true := by
    have h := dN_plain (swT p.main)
    rw [dN_eq, swT_kind, swT_num, swT_name] at h
    exact h
   have e3 : Ext (okGh g3.ok) w3 (okGh fun b o => ok0 b o ∨ (w2.heap.size + 1 ≤ b ∧ b < w3.heap.size)) W4 := OkGh.ext (fun b o q => (hg3 b o q).imp id fun q => (by simpa using q)) (fun b o q => World.cell?_of_block (ho4 b (by
    rcases hg3 b o q with q | q
    ·have := HOK.out b o q; omega
    ·simp only [World.size_alloc] at q; omega))) (by omega)
   have h3 := (HR4.out.pl hpl).ext e3
   have hsw : dG (swP p) = dG ⟨p.vars, p.procs, swT p.main⟩ := rfl
   rw [hsw]
   have h5 := prog_of (p := p) (t := swT p.main) (n3 := p.main.kids.length) (A3 := A4) (c3 := c4) (HPV.out.ext e1) (HPQ.out.ext e1) (by rw [swT_kind, swT_num, swT_name]; exact h3)
   rw [swT_kind, swT_num, swT_name] at h5
   exact h5
  have hp4 : val W4 (okGh ok0) (dG p) (.agg #[.slice A1 p.vars.length c1, .slice A2 p.procs.length c2, .int .u8 p.main.kind, .int .i64 p.main.num, .string p.main.name, .slice A3 p.main.kids.length c3]) := val.move (fun _ _ q => q) (fun b o q => hb4.cell (p := ⟨b, o, none⟩) (HOK.out b o q)) (by omega) HP.out
  obtain ⟨xa0, xa1, xa2, xa3, xa4, xa5⟩ := six_at hP4
  obtain ⟨ya0, ya1, ya2, ya3, ya4, ya5⟩ := six_at hQ4
  have HB4 := Lib.hid hb4
  have HP4 := Lib.hid hp4
  have HQ4 := Lib.hid hq4
  have HKQ := Lib.hid hokQ
  clear hb4 hp4 hq4 hokQ ho4 bP3 bQ3 hg3 HB3 HB2 HB1
  refine (wpIn_wide (n := 0)).1 (serial [] hmo ?_)
  simp only [List.size_toArray, zlc, zln, Nat.reduceAdd]
  refine takeL (via := []) (v := ?_) hfn (by kernel_rfl) (i := 0) rfl (by kernel_rfl) (wanted_none rfl) (fun w' hbk => ?_) ?_
  rotate_left
  ·simp [execOp, go_sem, keepc hbk xa0, keepc hbk xa1, keepc hbk xa2, keepc hbk xa3, keepc hbk xa4, keepc hbk xa5]; exact rfl
  simp only [Act.put, List.setIfInBounds_toArray, zs1, zs0]
  refine takeL (via := []) (v := ?_) hfn (by kernel_rfl) (i := 2) rfl (by kernel_rfl) (wanted_none rfl) (fun w' hbk => ?_) ?_
  rotate_left
  ·simp [execOp, go_sem, keepc hbk ya0, keepc hbk ya1, keepc hbk ya2, keepc hbk ya3, keepc hbk ya4, keepc hbk ya5]; exact rfl
  simp only [Act.put, List.setIfInBounds_toArray, zs1, zs0]
  refine runC (f := ?_) (args := ?_) hfn hdp (by kernel_rfl) (j := 1) rfl (by kernel_rfl) (wanted_none rfl) ?_ ?_
  rotate_left; rotate_left
  ·simp [go_sem]; (refine And.intro ?_ ?_ <;> exact rfl)
  have hbd : Below W4.heap.size W4 W4.drew := (Below.refl _ _).drew
  refine (callsIn_wide.2 (chk_own p (ok0 := ok0) (w := W4.drew) (fun b o q => by have := HOK.out b o q; show b < W4.heap.size; omega) (val.move (fun _ _ q => q) (fun b o q => hbd.cell (p := ⟨b, o, none⟩) (by have := HOK.out b o q; show b < W4.heap.size; omega)) (Nat.le_refl _) HP4.out))).mono ?_
  rintro e w5 ⟨va, oa, na, Ma, ga, rfl, hb5, hva, hMa, hga, hna⟩
  refine ⟨_, rfl, fun _ => hb5, ?_⟩
  simp only [Act.put, List.setIfInBounds_toArray, zs1, zs0]
  refine runC (f := ?_) (args := ?_) hfn hdp (by kernel_rfl) (j := 3) rfl (by kernel_rfl) (wanted_none rfl) ?_ ?_
  rotate_left; rotate_left
  ·simp [go_sem]; (refine And.intro ?_ ?_ <;> exact rfl)
  have hb45 : Below W4.heap.size W4 w5 := hbd.trans hb5
  have hz5 := hb45.size
  refine (callsIn_wide.2 (chk_own (swP p) (ok0 := fun b o => ok0 b o ∨ (w2.heap.size + 1 ≤ b ∧ b < w3.heap.size)) (w := w5) (fun b o q => by have := (HKQ.out b o q).1; omega) (val.move (fun _ _ q => q) (fun b o q => hb45.cell (p := ⟨b, o, none⟩) (HKQ.out b o q).1) hz5 HQ4.out))).mono ?_
  rintro e w6 ⟨vb, ob, nb, Mb, gb, rfl, hb6, hvb, hMb, hgb, hnb⟩
  refine ⟨_, rfl, fun _ => hb6, ?_⟩
  simp only [Act.put, List.setIfInBounds_toArray, zs1, zs0]
  refine takeF (v := ?_) hfn (by kernel_rfl) (i := 4) rfl (by kernel_rfl) (wanted_none rfl) (fun w' => ?_) ?_
  rotate_left
  ·simp [execOp, go_sem]; exact rfl
  simp only [Act.put, List.setIfInBounds_toArray, zs1, zs0]
  refine takeF (v := ?_) hfn (by kernel_rfl) (i := 5) rfl (by kernel_rfl) (wanted_none rfl) (fun w' => ?_) ?_
  rotate_left
  ·simp [execOp, go_sem]; exact rfl
  simp only [Act.put, List.setIfInBounds_toArray, zs1, zs0]
  refine doneK (by kernel_rfl) ?_
  obtain ⟨Aa, ca, rfl, hla, hma, hata⟩ := row_at hva hMa
  obtain ⟨Ab, cb, rfl, hlb, hmb, hatb⟩ := row_at hvb hMb
  have hlen : (chkF (swP p)).length = (chkF p).length := by have := congrArg List.length (chkF_sw p); simpa using this
  have hMal := hMa.len
  have hMbl := hMb.len
  have hz6 := hb6.size
  have hA : ∃ ba, 0 < (chkF p).length → Aa = some ⟨ba, 0, none⟩ ∧ w.heap.size ≤ ba ∧ ba < w5.heap.size ∧ ∀ i, w5.frozen? ⟨ba, i, none⟩ = false := by
   rcases Nat.eq_zero_or_pos (chkF p).length with h0 | h0
   ·exact ⟨0, fun h => by omega⟩
   ·obtain ⟨ba, cap, e, q1, q2, q3⟩ := hna (fun e => by rw [e] at hMal; simp at hMal; omega)
    injection e with e1
    exact ⟨ba, fun _ => ⟨e1, by have : W4.drew.heap.size = W4.heap.size := rfl; omega, q2, q3⟩⟩
  have hBb : ∃ bb, 0 < (chkF p).length → Ab = some ⟨bb, 0, none⟩ ∧ w.heap.size ≤ bb ∧ bb < w6.heap.size ∧ ∀ i, w6.frozen? ⟨bb, i, none⟩ = false := by
   rcases Nat.eq_zero_or_pos (chkF p).length with h0 | h0
   ·exact ⟨0, fun h => by omega⟩
   ·obtain ⟨bb, cap, e, q1, q2, q3⟩ := hnb (fun e => by rw [e] at hMbl; simp at hMbl; omega)
    injection e with e1
    exact ⟨bb, fun _ => ⟨e1, by omega, q2, q3⟩⟩
  obtain ⟨ba, hA⟩ := hA
  obtain ⟨bb, hBb⟩ := hBb
  have hBF : Below w.heap.size w w6 := HB4.out.trans ((hb45.trans (hb6.mono hz5)).mono (by omega))
  have hs56 : Str w5 w6 := Str.of_below hb6
  obtain ⟨bdl, bdp⟩ := chk_bd p
  obtain ⟨bdl', bdp'⟩ := chk_bd (swP p)
  have hla' : (chkF p).length ≤ cb := by omega
  rw [hlen]
  have HVA := Lib.hid hva
  have HVB := Lib.hid hvb
  have HMA := Lib.hid hMa
  have HMB := Lib.hid hMb
  have HA := Lib.hid hA
  have HBb := Lib.hid hBb
  have HTA := Lib.hid hata
  have HTB := Lib.hid hatb
  have HBF := Lib.hid hBF
  have HS := Lib.hid hs56
  clear hva hvb hMa hMb hA hBb hata hatb hna hnb hga hgb hb5 hb6 hb45 hbd hBF hs56 xa0 xa1 xa2 xa3 xa4 xa5 ya0 ya1 ya2 ya3 ya4 ya5 hP4 hQ4
  go_wp2_with fail
  go_loopw [28] (fun s28 wr => ∃ (i : Nat), i ≤ (chkF p).length ∧ s28 = .int .i64 i ∧ Str w6 wr ∧ Below w.heap.size w wr ∧ ∀ j, j < i → wr.cell? ⟨ba, j * 4 + 3, none⟩ = some (.string emS) ∧ wr.cell? ⟨bb, j * 4 + 3, none⟩ = some (.string emS))
   (fun s28 _ => (chkF p).length - (intOf s28).toNat)
  case atStart => exact ⟨0, Nat.zero_le _, rfl, Str.refl _, HBF.out, fun j h => absurd h (Nat.not_lt_zero _)⟩
  case round =>
   obtain ⟨i, hi, rfl, hst, hbl, hnm⟩ := hrel
   by_cases hlt : i < (chkF p).length
   ·obtain ⟨eA, gA1, gA2, fA⟩ := HA.out (by omega)
    obtain ⟨eB, gB1, gB2, fB⟩ := HBb.out (by omega)
    obtain ⟨b1, o1, _, e1, _, _, _, _, _, _, _, k1⟩ := HTA.out i hlt
    obtain ⟨b2, o2, _, e2, _, _, _, _, _, _, _, k2⟩ := HTB.out i (by omega)
    rw [eA] at e1
    rw [eB] at e2
    simp only [Option.some.injEq, Addr.mk.injEq, and_true] at e1 e2
    obtain ⟨rfl, rfl⟩ := e1
    obtain ⟨rfl, rfl⟩ := e2
    subst eA eB
    rw [Nat.zero_add] at k1 k2
    obtain ⟨sa, ka⟩ := (HS.out.trans hst).str _ _ _ k1
    obtain ⟨sb, kb0⟩ := hst.str _ _ _ k2
    have hz := hst.size
    have hsA := Str.set (s' := ⟨#[]⟩) ka
    obtain ⟨sb', kb⟩ := hsA.str _ _ _ kb0
    have hsB := Str.set (s' := ⟨#[]⟩) kb
    have fzA : wr.frozen? ⟨ba, i * 4 + 3, none⟩ = false := ((HS.out.trans hst).frz _ gA2).trans (fA _)
    have fzB : wr.frozen? ⟨bb, i * 4 + 3, none⟩ = false := (hst.frz _ gB2).trans (fB _)
    have hbl2 := Below.set (Below.set (o := i * 4 + 3) hbl gA1 (.string ⟨#[]⟩)) (o := i * 4 + 3) gB1 (.string ⟨#[]⟩)
    have hst2 := (hst.trans hsA).trans hsB
    have hnm2 : ∀ j, j < i + 1 → ((wr.setCell ⟨ba, i * 4 + 3, none⟩ (.string ⟨#[]⟩)).setCell ⟨bb, i * 4 + 3, none⟩ (.string ⟨#[]⟩)).cell? ⟨ba, j * 4 + 3, none⟩ = some (.string emS) ∧ ((wr.setCell ⟨ba, i * 4 + 3, none⟩ (.string ⟨#[]⟩)).setCell ⟨bb, i * 4 + 3, none⟩ (.string ⟨#[]⟩)).cell? ⟨bb, j * 4 + 3, none⟩ = some (.string emS) := fun j hj => by
     by_cases hji : j = i
     ·subst hji
      exact ⟨cell_set kb (World.cell?_setCell_same _ _ _ ka), World.cell?_setCell_same _ _ _ kb⟩
     ·obtain ⟨n1, n2⟩ := hnm j (by omega)
      exact ⟨cell_set kb (cell_set ka n1), cell_set kb (cell_set ka n2)⟩
    have HST2 := Lib.hid hst2
    have HBL2 := Lib.hid hbl2
    have HNM2 := Lib.hid hnm2
    clear hst hbl hnm hst2 hbl2 hnm2 hsA hsB k1 k2 kb0
    go_wp2_with fail
    exact ⟨⟨i + 1, by omega, by go_num, HST2.out, HBL2.out, HNM2.out⟩, by simp [intOf]; omega⟩
   ·obtain rfl : i = (chkF p).length := by omega
    have rowA := row_clr HVA.out HMA.out (HS.out.trans hst) (fun A c e j hj => by
     injection e with e1 _ _
     subst e1
     obtain ⟨eA, _⟩ := HA.out (by omega)
     exact ⟨ba, 0, eA, by rw [Nat.zero_add]; exact (hnm j hj).1⟩)
    have rowB := row_clr HVB.out HMB.out hst (fun A c e j hj => by
     injection e with e1 _ _
     subst e1
     obtain ⟨eB, _⟩ := HBb.out (by omega)
     exact ⟨bb, 0, eB, by rw [Nat.zero_add]; exact (hnm j (by omega)).2⟩)
    rw [chkF_sw, hlen] at rowB
    have hsm := same_self ((chkF p).map clr) true (by rw [zlm]; exact bdl) (fun f hf => by
     obtain ⟨x, hx, rfl⟩ := List.mem_map.1 hf
     exact bdp x hx) (sl_own4 ((chkF p).map clr)).1 (sl_own4 ((chkF p).map clr)).2 (sl_own4 ((chkF p).map clr)).1 (sl_own4 ((chkF p).map clr)).2
    have hcs := calls_of_fn' hsm (ok := allOk wr) (fun b o q => q) (vals_three_of rowA rowB (val.of1 ⟨_, .bool true, rfl⟩))
    have HCS := Lib.hid hcs
    have HBL := Lib.hid hbl
    clear hcs hst hbl hnm rowA rowB hsm
    go_wp2_with fail
    refine HCS.out.mono ?_
    rintro e w7 ⟨u, g7, rfl, hb7, hd7, _⟩
    obtain rfl := val_bool hd7
    have hsz7 := hb7.size
    have HB7 := Lib.hid (HBL.out.trans (hb7.mono HBL.out.size))
    clear hb7 hd7
    go_wp2_with fail
    go_ret
    exact ⟨rfl, HB7.out⟩

end Go.Proofs.Ytmglacjcefajlaa
