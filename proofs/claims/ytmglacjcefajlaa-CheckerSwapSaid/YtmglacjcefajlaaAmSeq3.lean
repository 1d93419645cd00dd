import Derived.Test.YtmglacjcefajlaaBF
import Derived.OwnWalkIn
import Derived.Laws.OwnMore

/- The machine over data: one operation, and operations one after another. Over any program. -/
namespace Go.Proofs.Ytmglacjcefajlaa
open Go.RowKit

structure St where
 fr : List D
 bx : List (List D)
 nx : Nat
 lv : List Nat
def St.put (σ : St) (dst : Option Tmp) (d : D) : St := match dst with
 | some t => { σ with fr := σ.fr.set t d }
 | none => σ

def abuild (P : Program) (σ : St) (t : TypeId) (len : Nat) (parts : List (Nat × D)) : Option (D × St) := match P.underlying t with
 | some (.slice e) => (match P.info? e with
  | some i => if i.zero.isSome = true ∧ 0 < i.size ∧ len * i.size ≤ 16777216 ∧ parts.map (·.1) = List.range len ∧ parts.all (fun p => p.2.good && p.2.cells.length == i.size) = true
   then some (.slice (.own σ.nx e) i.size (parts.map (·.2)), { σ with nx := σ.nx + 1, lv := σ.nx :: σ.lv }) else none
  | none => none)
 | _ => none

/-- make of a slice whose elements are single cells -/
def amake (P : Program) (σ : St) (t : TypeId) (x y : D) : Option (D × St) := match P.underlying t, x, y with
 | some (.slice e), .int _ n, .int _ m => (match P.info? e with
  | some i => (match i.zero.bind (fun z => ofCells z.cells.toList) with
   | some [d] => if n = m ∧ 0 ≤ n ∧ n ≤ 1000000 ∧ i.bytes ≤ 4096 ∧ i.size = 1 then some (.slice (.own σ.nx e) 1 (List.replicate n.toNat d), { σ with nx := σ.nx + 1, lv := σ.nx :: σ.lv }) else none
   | _ => none)
  | none => none)
 | _, _, _ => none

def aappend (P : Program) (σ : St) (t : TypeId) (s x : D) : Option (D × St) := match P.underlying t with
 | some (.slice e) => (match P.info? e, s, x with
  | some i, .slice q n l, .slice _ n2 l2 =>
   if l2 = [] then some (.slice q n l, σ)
   else if n2 = i.size ∧ 0 < i.size ∧ i.bytes ≤ 4096 ∧ (i.zero.map fun z => z.cells.size) = some i.size ∧ l.length + l2.length ≤ 16777216 then
    (match q with
    | .nil => if l = [] then some (.slice (.own σ.nx e) i.size (l ++ l2), { σ with nx := σ.nx + 1, lv := σ.nx :: σ.lv }) else none
    | .own st e' => if e' = e ∧ n = i.size ∧ st ∈ σ.lv then some (.slice (.own σ.nx e) i.size (l ++ l2), { σ with nx := σ.nx + 1, lv := σ.nx :: σ.lv.filter (· != st) }) else none
    | .clip => if l = [] ∨ n = i.size then some (.slice (.own σ.nx e) i.size (l ++ l2), { σ with nx := σ.nx + 1, lv := σ.nx :: σ.lv }) else none
    | _ => none)
   else none
  | _, _, _ => none)
 | _ => none

def astore (P : Program) (σ : St) (t : TypeId) (a x : D) : Option St := match tyOf P t, a with
 | some y, .ptr i off => (match σ.bx[i]? with
  | some cs => if x.good = true ∧ x.cells.length = y.sz ∧ off + y.sz ≤ cs.length then some { σ with bx := σ.bx.set i (cs.take off ++ x.cells ++ cs.drop (off + y.sz)) } else none
  | none => none)
 | some y, .bsl i off n _ => if n = 0 then (match σ.bx[i]? with
  | some cs => if x.good = true ∧ x.cells.length = y.sz ∧ off + y.sz ≤ cs.length then some { σ with bx := σ.bx.set i (cs.take off ++ x.cells ++ cs.drop (off + y.sz)) } else none
  | none => none) else none
 | _, _ => none

/-- a map's entry is set -/
def mput (td : TypeDesc) (k v : D) : List D → Option (List D)
 | [] => some [k, v]
 | [_] => none
 | a :: u :: r => match sameK td k a with
  | some true => some (k :: v :: r)
  | some false => (mput td k v r).map fun r' => a :: u :: r'
  | none => none
/-- a map's entry is struck -/
def mdel (td : TypeDesc) (k : D) : List D → Option (List D)
 | [] => some []
 | [_] => none
 | a :: u :: r => match sameK td k a with
  | some true => some r
  | some false => (mdel td k r).map fun r' => a :: u :: r'
  | none => none
def amset (P : Program) (σ : St) (t : TypeId) (m k v : D) : Option St := match P.underlying t with
 | some (.map kt _) => (match P.underlying kt with
  | some td => if keyOk td k = true ∧ v.isAgg = false ∧ v.good = true then (match m with
   | .mref i => (match σ.bx[i]? with
    | some l => if l.length ≤ 16777216 then (mput td k v l).map fun l' => { σ with bx := σ.bx.set i l' } else none
    | none => none)
   | _ => none) else none
  | none => none)
 | _ => none
def amdel (P : Program) (σ : St) (t : TypeId) (m k : D) : Option St := match P.underlying t with
 | some (.map kt _) => (match P.underlying kt with
  | some td => if keyOk td k = true then (match m with
   | .nmap => some σ
   | .mref i => (match σ.bx[i]? with
    | some l => (mdel td k l).map fun l' => { σ with bx := σ.bx.set i l' }
    | none => none)
   | _ => none) else none
  | none => none)
 | _ => none

/-- one operation: its value, and the state behind it -/
def aeff (P : Program) (call : Nat → List D → St → Option (D × St)) (σ : St) (o : Oper) : Option (D × St) := match o.op with
 | .box _ x => if (ev σ.fr x).good = true then some (.ptr σ.bx.length 0, { σ with bx := σ.bx ++ [(ev σ.fr x).cells] }) else none
 | .alloc t => (match (tyOf P t).bind (·.zero) with
  | some z => some (.ptr σ.bx.length 0, { σ with bx := σ.bx ++ [z] })
  | none => none)
 | .buildSlice t len parts => abuild P σ t len (parts.toList.map fun p => (p.1, ev σ.fr p.2))
 | .makeSlice t x y => amake P σ t (ev σ.fr x) (ev σ.fr y)
 | .store t a x => (astore P σ t (ev σ.fr a) (ev σ.fr x)).map fun σ' => (.undef, σ')
 | .makeMap _ r => if r.isNone then some (.mref σ.bx.length, { σ with bx := σ.bx ++ [[]] }) else none
 | .mapUpdate t m k x => (amset P σ t (ev σ.fr m) (ev σ.fr k) (ev σ.fr x)).map fun σ' => (.undef, σ')
 | .call c => (match c.callee with
  | .builtin .delete => (match c.args.toList, c.argTypes.toList with
   | [m, k], t :: _ => (amdel P σ t (ev σ.fr m) (ev σ.fr k)).map fun σ' => (.tup [], σ')
   | _, _ => none)
  | .builtin .append => (match c.args.toList, c.argTypes.toList with
   | [s, x], [t, t'] => if t = t' then aappend P σ t (ev σ.fr s) (ev σ.fr x) else none
   | _, _ => none)
  | .value f => (match ev σ.fr f with
   | .fn k caps => if (P.funcs[k]?).any (fun fn => fn.body.isSome && fn.name != "runtime.NumGoroutine") then call k (c.args.toList.map (ev σ.fr) ++ caps) σ else none
   | _ => none)
  | _ => (aop P (ev σ.fr) (fun i => σ.bx[i]?) o).map fun d => (d, σ))
 | _ => (aop P (ev σ.fr) (fun i => σ.bx[i]?) o).map fun d => (d, σ)

def awant (ops : List Oper) (fr : List D) (o : Oper) : Bool := match o.guard with
 | none => true
 | some (j, want) => (match (ops[j]?).bind (·.dst) with
  | some t => (match fr[t]? with
   | some (.bool b) => b == want
   | _ => false)
  | none => false)
def astep (P : Program) (call : Nat → List D → St → Option (D × St)) (ops : List Oper) (σ : St) (o : Oper) : Option St :=
 if awant ops σ.fr o then (aeff P call σ o).map fun x => x.2.put o.dst x.1 else some (σ.put o.dst .undef)
def aops (P : Program) (call : Nat → List D → St → Option (D × St)) (ops : List Oper) : List Oper → St → Option St
 | [], σ => some σ
 | o :: r, σ => match astep P call ops σ o with
  | some σ' => aops P call ops r σ'
  | none => none

/-- every constant is a datum; no deferred calls, no selects -/
def opOk (o : Oper) : Bool := o.op.operands.all (fun x => match x with | .tmp _ => true | .const v => (ofValue v).isSome | .func _ => true | .global _ => false) && (match o.op with | .defer _ => false | .select _ _ => false | .go _ => false | _ => true)

def fence : Option Nat → Fence
 | none => Fence.wide
 | some l => Fence.wide.inRound l
theorem fence_fn (ro : Option Nat) (f : FuncId) : (fence ro).fn f := by cases ro <;> trivial
theorem fence_depth (ro : Option Nat) : (fence ro).depth.isSome = false := by cases ro <;> rfl
theorem fence_calls {ro : Option Nat} {n : Nat} {P : Program} {f : FuncId} {args : Array Value} {w : World} {Q : Ending → World → Prop} (h : Calls P f args w Q) : CallsIn (fence ro) n P f args w Q := by
 cases ro with
 | none => exact callsIn_wide.2 h
 | some l => exact CallsIn.inRound l (callsIn_wide.2 h)

section
variable {P : Program} {base : Nat} {w0 : World} {ok0 : Gh}

def RS (P : Program) (base : Nat) (w0 : World) (ok0 : Gh) (g : Gh) (σ : St) (w : World) : Prop := RW P base w0 ok0 g (fun i => σ.bx[i]?) (fun s => s < σ.nx) (fun s => s ∈ σ.lv) w
structure Rel (P : Program) (base : Nat) (w0 : World) (ok0 : Gh) (g : Gh) (σ : St) (a : Act) (w : World) : Prop where
 rs : RS P base w0 ok0 g σ w
 len : σ.fr.length = a.tmps.size
 fr : ∀ (t : Nat) (d : D), σ.fr[t]? = some d → ∃ v, a.tmps[t]? = some v ∧ val w g d v

def CallOk (P : Program) (base : Nat) (w0 : World) (ok0 : Gh) (call : Nat → List D → St → Option (D × St)) : Prop :=
 ∀ k args σ d σ', call k args σ = some (d, σ') → σ'.fr = σ.fr ∧ ∀ g vs w, RS P base w0 ok0 g σ w → vals w g args vs →
  Calls P k vs.toArray w fun e w' => ∃ v g', e = .returned v ∧ RS P base w0 ok0 g' σ' w' ∧ Ext g w g' w' ∧ val w' g' d v

variable {g : Gh} {σ σ' : St} {a : Act} {w : World} {o : Oper} {d : D}

theorem Rel.ev (h : Rel P base w0 ok0 g σ a w) (ho : opOk o = true) : ∀ x ∈ o.op.operands, val w g (ev σ.fr x) (a.eval x) := by
 intro x hx
 unfold opOk at ho
 rw [zat, Array.all_eq_true_iff_forall_mem] at ho
 have h1 := ho.1 x hx
 refine ev_val h.fr h.len x ?_
 cases x with
 | tmp t => exact .inr ⟨t, rfl⟩
 | const v =>
  left
  simp only at h1
  obtain ⟨d, hd⟩ := Option.isSome_iff_exists.1 h1
  simp only [Go.Proofs.Ytmglacjcefajlaa.ev, hd, zgd]
  exact (ofValue_R (w := w) (g := g) hd).good
 | global i => simp at h1
 | func f => exact .inl rfl

theorem Rel.put (h : Rel P base w0 ok0 g σ a w) {g' : Gh} {w' : World} (hr : RS P base w0 ok0 g' σ' w') (hf : σ'.fr = σ.fr) (he : Ext g w g' w') {dst : Option Tmp} {v : Value} (hv : val w' g' d v) : Rel P base w0 ok0 g' (σ'.put dst d) (a.put dst v) w' := by
 cases dst with
 | none => exact ⟨hr, by rw [show (σ'.put none d) = σ' from rfl, hf]; exact h.len, fun t d' q => by
   rw [show (σ'.put none d) = σ' from rfl, hf] at q
   obtain ⟨u, h1, h2⟩ := h.fr t d' q
   exact ⟨u, h1, h2.ext he⟩⟩
 | some t =>
  refine ⟨hr, by simp only [St.put, Act.put, List.length_set, Array.size_setIfInBounds, hf]; exact h.len, fun t' d' q => ?_⟩
  simp only [St.put, Act.put, hf] at q ⊢
  by_cases e : t = t'
  ·subst e
   rw [List.getElem?_set] at q
   simp only [if_true] at q
   split at q
   ·rename_i hlt
    cases q
    exact ⟨v, by rw [Array.getElem?_setIfInBounds]; simp only [if_true]; rw [if_pos (by have := h.len; omega)], hv⟩
   ·cases q
  ·rw [List.getElem?_set_ne e] at q
   obtain ⟨u, h1, h2⟩ := h.fr t' d' q
   exact ⟨u, by rw [Array.getElem?_setIfInBounds_ne e]; exact h1, h2.ext he⟩

theorem val_notBool {v : Value} {b : Bool} (h : val w g d v) (hv : v = .bool b) : d = .bool b := by
 subst hv
 cases d with
 | undef => cases h
 | tup l => obtain ⟨vs, h1, _⟩ := h; cases h1
 | _ =>
  obtain ⟨cs, h1, h2⟩ := h
  cases h1 <;> first | (simp [pack] at h2; done) | (rename_i hb; simp [pack] at h2; exact absurd h2.symm (hb _)) | (simp [pack] at h2; subst h2; rfl)

theorem awant_eq (h : Rel P base w0 ok0 g σ a w) (ops : Array Oper) (o : Oper) : Region.wanted o (yielded ops a.tmps) = awant ops.toList σ.fr o := by
 unfold Region.wanted awant
 cases o.guard with
 | none => rfl
 | some x =>
  obtain ⟨j, want⟩ := x
  simp only [yielded, Array.getElem?_toList]
  cases hd : (ops[j]?).bind (·.dst) with
  | none => cases want <;> rfl
  | some t =>
   simp only [zbs]
   cases hf : σ.fr[t]? with
   | none =>
    have : a.tmps[t]? = none := by rw [Array.getElem?_eq_none_iff, ← h.len]; exact List.getElem?_eq_none_iff.1 hf
    rw [this]
    cases want <;> rfl
   | some d =>
    obtain ⟨v, h1, h2⟩ := h.fr t d hf
    rw [h1]
    by_cases hb : ∃ b, v = .bool b
    ·obtain ⟨b, rfl⟩ := hb
     have := val_notBool h2 rfl
     subst this
     cases b <;> cases want <;> rfl
    ·have hv : ∀ b, v ≠ .bool b := fun b e => hb ⟨b, e⟩
     have hd' : ∀ b, d ≠ .bool b := fun b e => by subst e; exact hv b (val_bool h2)
     cases v <;> first | exact absurd rfl (hv _) | skip
     all_goals (cases d <;> first | exact absurd rfl (hd' _) | (cases want <;> rfl))
end

end Go.Proofs.Ytmglacjcefajlaa

/- The machine over data: each operation does in memory what it does on data. Over any program. -/
namespace Go.Proofs.Ytmglacjcefajlaa
open Go.RowKit

section
variable {P : Program} {base : Nat} {w0 : World} {ok0 : Gh} {g : Gh} {σ σ' : St} {a : Act} {w : World} {o : Oper} {d : D} {call : Nat → List D → St → Option (D × St)}

/-- what comes of an operation -/
def EffOut (P : Program) (base : Nat) (w0 : World) (ok0 : Gh) (g : Gh) (a : Act) (w : World) (o : Oper) (d : D) (σ' : St) : Prop :=
 (∃ v w1 g1, (execOp a.eval o).run P w = .ok (.value v) w1 ∧ RS P base w0 ok0 g1 σ' w1 ∧ Ext g w g1 w1 ∧ val w1 g1 d v) ∨
 (∃ w1 g1, (execOp a.eval o).run P w = .ok .skip w1 ∧ d = .undef ∧ RS P base w0 ok0 g1 σ' w1 ∧ Ext g w g1 w1) ∨
 (∃ k vs, (execOp a.eval o).run P w = .ok (.enter k vs) w ∧ Calls P k vs w fun e w' => ∃ v g', e = .returned v ∧ RS P base w0 ok0 g' σ' w' ∧ Ext g w g' w' ∧ val w' g' d v)

theorem snoc_at (l : List (List D)) (c : List D) (i : Nat) : (l ++ [c])[i]? = if i = l.length then some c else l[i]? := by
 by_cases h : i = l.length
 ·rw [if_pos h, h]; simp
 ·rw [if_neg h]
  rcases Nat.lt_or_ge i l.length with q | q
  ·rw [List.getElem?_append_left q]
  ·rw [List.getElem?_eq_none (by simp; omega), List.getElem?_eq_none q]

theorem RS.box (h : RS P base w0 ok0 g σ w) {cs : List D} {vs : List Value} (t : TypeId) (hr : R w g (.agg cs) vs) :
  ∃ g', RS P base w0 ok0 g' { σ with bx := σ.bx ++ [cs] } (w.alloc (.cells vs.toArray t)) ∧ Ext g w g' (w.alloc (.cells vs.toArray t)) ∧ val (w.alloc (.cells vs.toArray t)) g' (.ptr σ.bx.length 0) (.pointer (some ⟨w.heap.size, 0, none⟩)) := by
 obtain ⟨g', h1, h2, h3⟩ := newBox (i := σ.bx.length) h t (List.getElem?_eq_none (Nat.le_refl _)) hr
 exact ⟨g', h1.same_bx (fun i => snoc_at _ _ i), h2, h3⟩

theorem run_bx {t : TypeId} {x : Operand} (ho : o.op = .box t x) (hv : val w g (ev σ.fr x) (a.eval x)) (h : aeff P call σ o = some (d, σ')) :
  ∃ cs vs, R w g (.agg cs) vs ∧ d = .ptr σ.bx.length 0 ∧ σ' = { σ with bx := σ.bx ++ [cs] } ∧ (execOp a.eval o).run P w = .ok (.value (.pointer (some ⟨w.heap.size, 0, none⟩))) (w.alloc (.cells vs.toArray t)) := by
 simp only [aeff, ho] at h
 split at h
 ·rename_i hg
  cases h
  have h1 := (hv.to1 hg).val_cells
  refine ⟨_, _, h1.cell, rfl, rfl, ?_⟩
  simp only [execOp, ho, Instr.box, newVar, newRow, Array.toArray_toList]
  rfl
 ·cases h
theorem run_al {t : TypeId} (ho : o.op = .alloc t) (h : aeff P call σ o = some (d, σ')) :
  ∃ cs vs, R w g (.agg cs) vs ∧ d = .ptr σ.bx.length 0 ∧ σ' = { σ with bx := σ.bx ++ [cs] } ∧ (execOp a.eval o).run P w = .ok (.value (.pointer (some ⟨w.heap.size, 0, none⟩))) (w.alloc (.cells vs.toArray t)) := by
 simp only [aeff, ho] at h
 split at h
 ·rename_i z hz
  cases h
  cases hy : tyOf P t with
  | none => rw [hy] at hz; cases hz
  | some y =>
   rw [hy] at hz
   simp only [zbs] at hz
   obtain ⟨i, u, hi, hu, _, _, hzero, _, _⟩ := tyOf_some hy
   rw [hzero] at hz
   cases hzz : i.zero with
   | none => rw [hzz] at hz; cases hz
   | some zv =>
    rw [hzz] at hz
    simp only [zbs] at hz
    refine ⟨_, _, ofCells_R hz, rfl, rfl, ?_⟩
    simp only [execOp, ho, Array.toArray_toList]
    have hzv : (zeroValue t).run P w = .ok zv w := by unfold zeroValue; rw [Sem.run_bind, run_info hi, Result.andThen_ok, hzz]; rfl
    show ((do let v ← Instr.alloc t true (.tuple #[]); pure (Next.value v)) : Sem Next).run P w = _
    rw [Sem.run_bind]
    unfold Instr.alloc
    rw [Sem.run_bind, hzv, Result.andThen_ok]
    rfl
 ·cases h
theorem eff_box {t : TypeId} {x : Operand} (ho : o.op = .box t x) (hr : RS P base w0 ok0 g σ w) (hv : val w g (ev σ.fr x) (a.eval x)) (h : aeff P call σ o = some (d, σ')) : σ'.fr = σ.fr ∧ EffOut P base w0 ok0 g a w o d σ' := by
 obtain ⟨cs, vs, h1, rfl, rfl, h2⟩ := run_bx ho hv h
 obtain ⟨g', r1, r2, r3⟩ := hr.box t h1
 exact ⟨rfl, .inl ⟨_, _, g', h2, r1, r2, r3⟩⟩
theorem eff_alloc {t : TypeId} (ho : o.op = .alloc t) (hr : RS P base w0 ok0 g σ w) (h : aeff P call σ o = some (d, σ')) : σ'.fr = σ.fr ∧ EffOut P base w0 ok0 g a w o d σ' := by
 obtain ⟨cs, vs, h1, rfl, rfl, h2⟩ := run_al (w := w) (g := g) (a := a) ho h
 obtain ⟨g', r1, r2, r3⟩ := hr.box t h1
 exact ⟨rfl, .inl ⟨_, _, g', h2, r1, r2, r3⟩⟩

theorem parts_zip (ρ : Operand → Value) : ∀ (l : List (Nat × Operand)) (k : Nat), l.map (·.1) = List.range' k l.length → l.map (fun p => (p.1, ρ p.2)) = ((l.map fun p => ρ p.2).zipIdx k).map fun x => (x.2, x.1)
 | [], _, _ => rfl
 | p :: r, k, h => by
  simp only [zmc, zlc, List.range'_succ, List.cons.injEq] at h
  simp only [zmc, List.zipIdx_cons, List.cons.injEq]
  exact ⟨by rw [h.1], parts_zip ρ r (k + 1) h.2⟩

theorem run_bs {bxf : Nat → Option (List D)} {K lv : Nat → Prop} {t : TypeId} {len : Nat} {parts : Array (Nat × Operand)} (ho : o.op = .buildSlice t len parts) (hr : RW P base w0 ok0 g bxf K lv w) (hs : ¬ K σ.nx) (hp : ∀ p ∈ parts.toList, val w g (ev σ.fr p.2) (a.eval p.2)) (h : aeff P call σ o = some (d, σ')) :
  σ' = { σ with nx := σ.nx + 1, lv := σ.nx :: σ.lv } ∧ ∃ v w1 g1, (execOp a.eval o).run P w = .ok (.value v) w1 ∧ RW P base w0 ok0 g1 bxf (fun j => K j ∨ j = σ.nx) (fun j => lv j ∨ j = σ.nx) w1 ∧ Ext g w g1 w1 ∧ val w1 g1 d v := by
 simp only [aeff, ho, abuild] at h
 split at h
 ·rename_i e hu
  split at h
  ·rename_i i hi
   split at h
   ·rename_i hc
    obtain ⟨hz, hpos, hsm, hidx, hall⟩ := hc
    cases h
    obtain ⟨z, hz⟩ := Option.isSome_iff_exists.1 hz
    have hsz : P.cellsOf e = i.size := by unfold Program.cellsOf; rw [hi]; rfl
    have hlen : parts.toList.length = len := by have := congrArg List.length hidx; simpa using this
    have hgd : ∀ p ∈ parts.toList, (ev σ.fr p.2).good = true ∧ (ev σ.fr p.2).cells.length = i.size := by
     intro p hp'
     have := List.all_eq_true.1 hall _ (List.mem_map_of_mem hp')
     simpa using this
    have hR : ∀ p ∈ parts.toList, R w g (ev σ.fr p.2) (a.eval p.2).cells.toList := fun p hp' => ((hp p hp').to1 (hgd p hp').1).val_cells
    have hcl : ∀ p ∈ parts.toList, (a.eval p.2).cells.size = i.size := fun p hp' => by
     have := (hR p hp').len
     rw [(hgd p hp').2] at this; simpa using this
    obtain ⟨g', r1, r2, r3⟩ := newRow' hr (s := σ.nx) (e := e) (l := (parts.toList.map fun p => (p.1, ev σ.fr p.2)).map (·.2)) (cs := fun j => match parts.toList[j]? with | some p => (a.eval p.2).cells.toList | none => []) hs
     (by simp only [zlm, hlen]; have : len * 1 ≤ len * i.size := Nat.mul_le_mul_left _ hpos; omega)
     (fun j hj => by
      simp only [zlm] at hj
      simp only [List.getElem_map, List.getElem?_eq_getElem hj]
      exact hR _ (List.getElem_mem hj))
     (fun j hj => by
      simp only [zlm] at hj
      simp only [List.getElem?_eq_getElem hj, hsz]
      simpa using hcl _ (List.getElem_mem hj))
    have hflat : (List.range' 0 ((parts.toList.map fun p => (p.1, ev σ.fr p.2)).map (·.2)).length).flatMap (fun j => match parts.toList[j]? with | some p => (a.eval p.2).cells.toList | none => []) = (parts.toList.map fun p => a.eval p.2).flatMap fun v => v.cells.toList := by
     simp only [zlm]
     rw [List.flatMap_map]
     generalize parts.toList = l
     have : ∀ (l pre : List (Nat × Operand)), (List.range' pre.length l.length).flatMap (fun j => match (pre ++ l)[j]? with | some p => (a.eval p.2).cells.toList | none => []) = l.flatMap fun p => (a.eval p.2).cells.toList := by
      intro l
      induction l with
      | nil => intro pre; simp
      | cons p r ih =>
       intro pre
       rw [zlc, List.range'_succ, List.flatMap_cons, List.flatMap_cons]
       have := ih (pre ++ [p])
       simp only [zla, List.length_singleton, zaa, List.singleton_append] at this
       rw [this]
       simp
     exact this l []
    refine ⟨rfl, .slice (some ⟨w.heap.size, 0, none⟩) len len, _, g', ?_, r1, r2, ?_⟩
    ·simp only [execOp, ho, hflat]
     refine (show ((do let v ← Instr.buildSlice t len (parts.map fun p => (p.1, a.eval p.2)); pure (Next.value v)) : Sem Next).run P w = _ from ?_)
     rw [Sem.run_bind]
     have hbs : (Instr.buildSlice t len (parts.map fun p => (p.1, a.eval p.2))).run P w = .ok (.slice (some ⟨w.heap.size, 0, none⟩) len len) (w.alloc (.cells ((parts.toList.map fun p => a.eval p.2).flatMap fun v => v.cells.toList).toArray e)) := by
      have hpp : (parts.map fun p => (p.1, a.eval p.2)).toList = ((parts.toList.map fun p => a.eval p.2).zipIdx 0).map fun x => (x.2, x.1) := by
       rw [Array.toList_map]
       refine parts_zip a.eval parts.toList 0 ?_
       rw [hlen, ← List.range_eq_range', ← hidx]
       simp
      by_cases h0 : len = 0
      ·have hpn : parts = #[] := by
        apply Array.toList_inj.1
        exact List.eq_nil_of_length_eq_zero (by omega)
       subst h0
       subst hpn
       simp only [Instr.buildSlice]
       rw [Sem.run_bind, run_underlying hu, Result.andThen_ok]
       dsimp only
       rw [Sem.run_bind, run_size hi, Result.andThen_ok]
       simp [Instr.fill, newRow, go_sem]
      ·refine run_buildSlice w t e len _ _ i z hu hi hz (by omega) (by have : 0 < len * i.size := Nat.mul_pos (by omega) hpos; omega) ?_
       rw [hpp]
       exact Go.Great.fill_whole hpos _ _ (fun v hv => by obtain ⟨p, hp', rfl⟩ := List.mem_map.1 hv; exact hcl p hp') (by simp [hlen])
     rw [hbs]
     rfl
    ·rw [hsz] at r3
     have e9 : ((parts.toList.map fun p => (p.1, ev σ.fr p.2)).map (·.2)).length = len := by simp only [zlm, hlen]
     have e10 : (Value.slice (some ⟨w.heap.size, 0, none⟩) ((parts.toList.map fun p => (p.1, ev σ.fr p.2)).map (·.2)).length ((parts.toList.map fun p => (p.1, ev σ.fr p.2)).map (·.2)).length) = .slice (some ⟨w.heap.size, 0, none⟩) len len := by rw [e9]
     rw [e10] at r3
     exact r3
   ·cases h
  ·cases h
 ·cases h

theorem eff_buildSlice {t : TypeId} {len : Nat} {parts : Array (Nat × Operand)} (ho : o.op = .buildSlice t len parts) (hr : RS P base w0 ok0 g σ w) (hp : ∀ p ∈ parts.toList, val w g (ev σ.fr p.2) (a.eval p.2)) (h : aeff P call σ o = some (d, σ')) : σ'.fr = σ.fr ∧ EffOut P base w0 ok0 g a w o d σ' := by
 obtain ⟨rfl, v, w1, g1, q1, q2, q3, q4⟩ := run_bs ho hr (by omega) hp h
 exact ⟨rfl, .inl ⟨v, w1, g1, q1, (q2.more (K' := fun s => s < σ.nx + 1) (fun s q => by omega)).drop (fun s q => by simp only [List.mem_cons] at q; exact q.symm), q3, q4⟩⟩

theorem run_mk {bxf : Nat → Option (List D)} {K lv : Nat → Prop} {t : TypeId} {x y : Operand} (ho : o.op = .makeSlice t x y) (hr : RW P base w0 ok0 g bxf K lv w) (hs : ¬ K σ.nx) (hx : val w g (ev σ.fr x) (a.eval x)) (hy : val w g (ev σ.fr y) (a.eval y)) (h : aeff P call σ o = some (d, σ')) :
  σ' = { σ with nx := σ.nx + 1, lv := σ.nx :: σ.lv } ∧ ∃ v w1 g1, (execOp a.eval o).run P w = .ok (.value v) w1 ∧ RW P base w0 ok0 g1 bxf (fun j => K j ∨ j = σ.nx) (fun j => lv j ∨ j = σ.nx) w1 ∧ Ext g w g1 w1 ∧ val w1 g1 d v := by
 simp only [aeff, ho, amake] at h
 split at h
 ·rename_i e k1 n k2 m hu hxe hye
  split at h
  ·rename_i i hi
   split at h
   ·rename_i d0 hz0
    split at h
    ·rename_i hc
     obtain ⟨rfl, h0, h1, hby, hsz⟩ := hc
     cases h
     rw [hxe] at hx
     rw [hye] at hy
     rw [Option.bind_eq_some_iff] at hz0
     obtain ⟨z, hz, hzc⟩ := hz0
     have hR0 : R w g (.agg [d0]) z.cells.toList := ofCells_R hzc
     have hlz := hR0.len
     obtain ⟨c0, hc0⟩ : ∃ c0, z.cells.toList = [c0] := by
      match hq : z.cells.toList, hlz with
      | [c], _ => exact ⟨c, rfl⟩
     rw [hc0] at hR0
     have hRd : R w g d0 [c0] := by
      cases hR0 with
      | agg _ _ hl hh => exact hh 0 (by simp) (by simp)
     obtain ⟨n, rfl⟩ := Int.eq_ofNat_of_zero_le h0
     obtain ⟨g', r1, r2, r3⟩ := newRow' hr (s := σ.nx) (e := e) (l := List.replicate n d0) (cs := fun _ => [c0]) hs (by simp only [List.length_replicate]; omega)
      (fun j hj => by rw [List.getElem_replicate]; exact hRd) (fun j hj => by unfold Program.cellsOf; rw [hi]; simp [hsz])
     have hflat : ∀ q s : Nat, (List.range' s q).flatMap (fun _ => [c0]) = List.replicate q c0 := by
      intro q
      induction q with
      | zero => intro s; rfl
      | succ q ih => intro s; rw [List.range'_succ, List.flatMap_cons, ih, zr1]; rfl
     have hcells : z.cells = #[c0] := by apply Array.toList_inj.1; rw [hc0]
     have hmk : (Instr.makeSlice t (.int k1 (n : Int)) (.int k2 (n : Int))).run P w = .ok (.slice (some ⟨w.heap.size, 0, none⟩) n n) (w.alloc (.cells (List.replicate n c0).toArray e)) := by
      have hmul : i.bytes * n ≤ 4096 * 1000000 := Nat.mul_le_mul hby (by omega)
      have h3 : ((i.bytes * n : Nat) : Int) ≤ 281474976710656 := by omega
      rw [Int.natCast_mul] at h3
      have := run_make (P := P) w t e i z hu hi hz k1 k2 n n (by omega) (Int.le_refl _) h3 (by omega)
      rw [this]
      simp only [Int.toNat_natCast, hsz, Nat.mul_one, hcells]
      have h4 := toList_madeCells_one c0 n
      rw [show madeCells #[c0] n = (List.replicate n c0).toArray from by rw [← h4]]
     have hxv := (val_int hx).1
     have hyv := (val_int hy).1
     refine ⟨rfl, .slice (some ⟨w.heap.size, 0, none⟩) n n, _, g', ?_, r1, r2, ?_⟩
     ·simp only [execOp, ho, hxv, hyv]
      refine (show ((do let v ← Instr.makeSlice t (.int k1 (n : Int)) (.int k2 (n : Int)); pure (Next.value v)) : Sem Next).run P w = _ from ?_)
      rw [Sem.run_bind, hmk]
      simp only [List.length_replicate, hflat]
      rfl
     ·have e1 : P.cellsOf e = 1 := by unfold Program.cellsOf; rw [hi]; exact hsz
      simpa [e1] using r3
    ·cases h
   ·cases h
  ·cases h
 ·cases h
theorem eff_makeSlice {t : TypeId} {x y : Operand} (ho : o.op = .makeSlice t x y) (hr : RS P base w0 ok0 g σ w) (hx : val w g (ev σ.fr x) (a.eval x)) (hy : val w g (ev σ.fr y) (a.eval y)) (h : aeff P call σ o = some (d, σ')) : σ'.fr = σ.fr ∧ EffOut P base w0 ok0 g a w o d σ' := by
 obtain ⟨rfl, v, w1, g1, q1, q2, q3, q4⟩ := run_mk ho hr (by omega) hx hy h
 exact ⟨rfl, .inl ⟨v, w1, g1, q1, (q2.more (K' := fun s => s < σ.nx + 1) (fun s q => by omega)).drop (fun s q => by simp only [List.mem_cons] at q; exact q.symm), q3, q4⟩⟩

/-- a box is written through an address of its own -/
theorem eff_store_at {t : TypeId} {p x : Operand} (ho : o.op = .store t p x) (hr : RS P base w0 ok0 g σ w) (hx : val w g (ev σ.fr x) (a.eval x)) {y : Ty} {i off b : Nat} {cs : List D} (hy : tyOf P t = some y) (hcs : σ.bx[i]? = some cs)
  (hβ : g.β i = some b ∧ g.mp i = false) (hpv : a.eval p = .pointer (some ⟨b, off, none⟩)) (hg : (ev σ.fr x).good = true) (hl : (ev σ.fr x).cells.length = y.sz) (hle : off + y.sz ≤ cs.length) :
  EffOut P base w0 ok0 g a w o .undef { σ with bx := σ.bx.set i (cs.take off ++ (ev σ.fr x).cells ++ cs.drop (off + y.sz)) } := by
 obtain ⟨vs, sp, ty, q2, q3⟩ := (RW.boxesAt hr).cells hcs hβ
 have hR := (hx.to1 hg).val_cells
 have hlen := R_agg_len q3
 have hcl : (a.eval x).cells.toList.length = y.sz := by rw [hR.len]; exact hl
 obtain ⟨inf, u, hi, hu, hsz, _⟩ := tyOf_some hy
 have hrun := run_storeCells_at (P := P) b off ty (a.eval x).cells.toList 0 (vs ++ sp).toArray w q2 (by simp only [List.size_toArray, zla]; omega) hR.one
 simp only [Nat.add_zero, hcl] at hrun
 have hsp : (vs ++ sp).take off ++ (a.eval x).cells.toList ++ (vs ++ sp).drop (off + y.sz) = (vs.take off ++ (a.eval x).cells.toList ++ vs.drop (off + y.sz)) ++ sp := by
  rw [List.take_append_of_le_length (by omega), List.drop_append_of_le_length (by omega)]; simp
 replace hrun := hrun.trans (congrArg (fun l : List Value => Result.ok () (w.setRow b l.toArray)) hsp)
 have hnew : R w g (.agg (cs.take off ++ (ev σ.fr x).cells ++ cs.drop (off + y.sz))) (vs.take off ++ (a.eval x).cells.toList ++ vs.drop (off + y.sz)) := by
  refine R_agg_append (R_agg_append ?_ hR.cell) ?_
  ·have := R_agg_sub q3 0 off; simpa using this
  ·have := R_agg_sub q3 (off + y.sz) (cs.length - (off + y.sz))
   rw [List.take_of_length_le (by simp), List.take_of_length_le (by simp; omega)] at this
   exact this
 obtain ⟨r1, r2⟩ := RW.put hr (w' := w.setRow b (vs.take off ++ (a.eval x).cells.toList ++ vs.drop (off + y.sz) ++ sp).toArray) hβ.1 (by simp) (fun c hc => setRow_other w b c _ hc) ⟨rfl, rfl, rfl⟩ (fun e => by rw [hβ.2]; exact ⟨_, sp, ty, setRow_heap w b (vs ++ sp).toArray _ ty (0, 0) q2, hnew.ext e⟩)
 refine .inr (.inl ⟨_, g, ?_, rfl, r1.same_bx (fun j => ?_), r2⟩)
 ·simp only [execOp, ho, hpv]
  refine (show ((do Instr.storeAt t (.pointer (some ⟨b, off, none⟩)) (a.eval x); pure Next.skip) : Sem Next).run P w = _ from ?_)
  rw [Sem.run_bind]
  have : (Instr.storeAt t (.pointer (some ⟨b, off, none⟩)) (a.eval x)).run P w = .ok () (w.setRow b (vs.take off ++ (a.eval x).cells.toList ++ vs.drop (off + y.sz) ++ sp).toArray) := by
   show (storeVar t ⟨b, off, none⟩ (a.eval x)).run P w = _
   unfold storeVar
   rw [Sem.run_bind, run_size hi, Result.andThen_ok, if_neg (by rw [← hsz, ← hcl]; simp)]
   exact hrun
  rw [this]
  rfl
 ·show (σ.bx.set i _)[j]? = _
  by_cases hj : j = i
  ·subst hj
   rw [if_pos rfl, List.getElem?_set_self (List.getElem?_eq_some_iff.1 hcs).1]
  ·rw [if_neg hj, List.getElem?_set_ne (fun e => hj e.symm)]
theorem eff_store {t : TypeId} {p x : Operand} (ho : o.op = .store t p x) (hr : RS P base w0 ok0 g σ w) (hp : val w g (ev σ.fr p) (a.eval p)) (hx : val w g (ev σ.fr x) (a.eval x)) (h : aeff P call σ o = some (d, σ')) : σ'.fr = σ.fr ∧ EffOut P base w0 ok0 g a w o d σ' := by
 simp only [aeff, ho, astore] at h
 split at h
 ·rename_i y i off hy hpe
  split at h
  ·rename_i cs hcs
   split at h
   ·rename_i hc
    obtain ⟨hg, hl, hle⟩ := hc
    cases h
    rw [hpe] at hp
    obtain ⟨b, hβ, hpv⟩ := val_ptr hp
    exact ⟨rfl, eff_store_at ho hr hx hy hcs hβ hpv hg hl hle⟩
   ·cases h
  ·cases h
 ·rename_i y i off n len hy hpe
  split at h
  ·rename_i h0
   subst h0
   split at h
   ·rename_i cs hcs
    split at h
    ·rename_i hc
     obtain ⟨hg, hl, hle⟩ := hc
     cases h
     rw [hpe] at hp
     obtain ⟨b, hβ, hpv⟩ := val_bpt hp
     exact ⟨rfl, eff_store_at ho hr hx hy hcs hβ hpv hg hl hle⟩
    ·cases h
   ·cases h
  ·cases h
 ·cases h
end

end Go.Proofs.Ytmglacjcefajlaa

/- The machine over data: append, calls, and operations one after another. Over any program. -/
namespace Go.Proofs.Ytmglacjcefajlaa
open Go.RowKit

section
variable {P : Program} {base : Nat} {w0 : World} {ok0 : Gh} {g : Gh} {σ σ' : St} {a : Act} {w : World} {o : Oper} {d : D} {call : Nat → List D → St → Option (D × St)}

theorem exec_append2 {ρ : Operand → Value} {o : Oper} {c : Call} {s x : Operand} {t : TypeId} {v : Value} {w w1 : World} (ho : o.op = .call c) (hc : c.callee = .builtin .append) (ha : c.args = #[s, x]) (ht : c.argTypes = #[t, t])
  (h : (Builtin.append_ #[t, t] o.type #[ρ s, ρ x]).run P w = .ok v w1) : (execOp ρ o).run P w = .ok (.value v) w1 := by
 unfold execOp
 simp only [ho, resolve, hc, ha, ht, invoke, builtin, Sem.run_bind, Sem.run_pure, Result.andThen_ok, List.map_toArray, zmc, zmn, h]

theorem val_slice_in {q : Own} {n : Nat} {l : List D} {v : Value} (hv : val w g (.slice q n l) v) : ∃ A cap, v = .slice A l.length cap ∧ l.length ≤ cap := by
 obtain ⟨A, cap, cs, h1, h2, _⟩ := val_slice hv
 exact ⟨A, cap, h1, h2⟩

theorem eff_append {c : Call} (ho : o.op = .call c) (hcal : c.callee = .builtin .append) (hr : RS P base w0 ok0 g σ w) (hv : ∀ x ∈ o.op.operands, val w g (ev σ.fr x) (a.eval x)) (h : aeff P call σ o = some (d, σ')) : σ'.fr = σ.fr ∧ EffOut P base w0 ok0 g a w o d σ' := by
 simp only [aeff, ho, hcal] at h
 split at h
 ·rename_i s x t t' hargs htys
  split at h
  ·rename_i htt
   subst htt
   have ha : c.args = #[s, x] := by rw [← Array.toArray_toList (xs := c.args), hargs]
   have ht : c.argTypes = #[t, t] := by rw [← Array.toArray_toList (xs := c.argTypes), htys]
   have hs := hv s (by simp [ho, Op.operands, Call.operands, ha])
   have hx := hv x (by simp [ho, Op.operands, Call.operands, ha])
   unfold aappend at h
   split at h
   ·rename_i e hu
    split at h
    ·rename_i i q n l q2 n2 l2 hi hse hxe
     rw [hse] at hs
     rw [hxe] at hx
     split at h
     ·rename_i hl2
      cases h
      subst hl2
      obtain ⟨A, cap, hv1, hle⟩ := val_slice_in hs
      obtain ⟨A2, cap2, hv2, hle2⟩ := val_slice_in hx
      refine ⟨rfl, .inl ⟨_, w, g, exec_append2 ho hcal ha ht ?_, hr, Ext.refl _ _, hs⟩⟩
      rw [hv1, hv2]
      cases A <;> cases A2 <;> simp [Builtin.append_, run_underlying hu, sizeOf, typeInfo, hi, Builtin.lenOf, Builtin.firstCells, hle, loadCells, loadCellsFrom, storeCells]
     ·rename_i hl2
      split at h
      ·rename_i hc
       obtain ⟨hn2, hpos, hby, hz, hlen⟩ := hc
       subst hn2
       rw [Option.map_eq_some_iff] at hz
       obtain ⟨z, hz, hzs⟩ := hz
       have hb : (l.length + l2.length) * i.bytes ≤ 140737488355328 := Nat.le_trans (Nat.mul_le_mul hlen hby) (by omega)
       have key : ∀ (hq : (q = .nil ∧ l = []) ∨ (∃ st, q = .own st e ∧ st ∈ σ.lv ∧ n = i.size) ∨ (q = .clip ∧ (l = [] ∨ n = i.size))) (lv' : List Nat), (∀ j, j ∈ lv' → j = σ.nx ∨ (j ∈ σ.lv ∧ q ≠ .own j e)) →
         EffOut P base w0 ok0 g a w o (.slice (.own σ.nx e) i.size (l ++ l2)) { σ with nx := σ.nx + 1, lv := lv' } := by
        intro hq lv' hlv
        obtain ⟨v', w', g', h1, h2, h3, h4⟩ := append_sound (ty := o.type) hr hu hi hz hzs hpos hs hx hl2 hq (s := σ.nx) (by omega) (by simp only [maxLen]; omega) hb
        exact .inl ⟨v', w', g', exec_append2 ho hcal ha ht h1, (h2.more (K' := fun s => s < σ.nx + 1) (fun s q => by omega)).drop (fun s q => (hlv s q).symm), h3, h4⟩
       split at h
       ·split at h
        ·rename_i hl0
         cases h
         exact ⟨rfl, key (.inl ⟨rfl, hl0⟩) _ (fun j q => by simp only [List.mem_cons] at q; exact q.imp id (fun q => ⟨q, by simp⟩))⟩
        ·cases h
       ·rename_i st e'
        split at h
        ·rename_i hc2
         obtain ⟨rfl, rfl, hst⟩ := hc2
         cases h
         refine ⟨rfl, key (.inr (.inl ⟨st, rfl, hst, rfl⟩)) _ (fun j q => ?_)⟩
         simp only [List.mem_cons, List.mem_filter, bne_iff_ne, ne_eq] at q
         exact q.imp id (fun q => ⟨q.1, fun e => by cases e; exact q.2 rfl⟩)
        ·cases h
       ·split at h
        ·rename_i hc2
         cases h
         exact ⟨rfl, key (.inr (.inr ⟨rfl, hc2⟩)) _ (fun j q => by simp only [List.mem_cons] at q; exact q.imp id (fun q => ⟨q, by simp⟩))⟩
        ·cases h
       ·cases h
      ·cases h
    ·cases h
   ·cases h
  ·cases h
 ·cases h

theorem sameNow_eq {td : TypeDesc} {kv u : Value} (hik : MapKept.IsKey td kv) (h : Instr.sameNow td kv u = some true) : u = kv := by
 cases td <;> cases kv <;> cases u <;> simp_all [MapKept.IsKey, Instr.sameNow, MapKept.bytes_beq]
/-- the map's block is written -/
theorem entL_put {td : TypeDesc} {k v : D} {kv vv : Value} (hk : R w g k [kv]) (hik : MapKept.IsKey td kv) (hv : R w g v [vv]) : ∀ {l l' : List D} {es : List MapEntry} (n : Nat), EntL w g l es → mput td k v l = some l' →
  (Instr.findNow td kv es n = some none ∧ (∀ c, EntL w g l' (es ++ [{ key := kv, val := vv, born := c }])) ∧ l'.length = l.length + 2) ∨
  (∃ j u e, j < es.length ∧ Instr.findNow td kv es n = some (some (n + j, u)) ∧ es[j]? = some e ∧ e.key = kv ∧ l'.length = l.length ∧ EntL w g l' (es.modify j fun e => { e with key := kv, val := vv }))
 | [], l', [], n, _, h => by
  cases h
  exact .inl ⟨rfl, fun c => ⟨hk, hv, trivial⟩, rfl⟩
 | a :: u :: r, l', e :: es, n, ⟨h1, h2, h3⟩, h => by
  unfold mput at h
  unfold Instr.findNow
  split at h
  ·rename_i hs
   cases h
   have hsn := sameK_now hk h1 hs
   rw [hsn]
   refine .inr ⟨0, e.val, e, by simp, rfl, rfl, ?_, rfl, ?_⟩
   ·exact sameNow_eq hik hsn
   ·exact ⟨hk, hv, h3⟩
  ·rename_i hs
   rw [Option.map_eq_some_iff] at h
   obtain ⟨r', h, rfl⟩ := h
   rw [sameK_now hk h1 hs]
   rcases entL_put hk hik hv (n + 1) h3 h with ⟨q1, q2, q3⟩ | ⟨j, x, e', q0, q1, q2, q3, q4, q5⟩
   ·exact .inl ⟨q1, fun c => ⟨h1, h2, q2 c⟩, by simp only [zlc]; omega⟩
   ·exact .inr ⟨j + 1, x, e', by simp; omega, by rw [q1, show n + 1 + j = n + (j + 1) from by omega], by simpa using q2, q3, by simp only [zlc]; omega, by
     rw [List.modify_succ_cons]; exact ⟨h1, h2, q5⟩⟩
  ·cases h
theorem entL_len : ∀ {l : List D} {es : List MapEntry}, EntL w g l es → l.length = 2 * es.length
 | [], [], _ => rfl
 | a :: v :: r, e :: es, ⟨_, _, h⟩ => by have := entL_len h; simp only [zlc]; omega
theorem entL_at : ∀ {l : List D} {es : List MapEntry}, EntL w g l es → ∀ (j : Nat) (h : j < l.length), R w g l[j] [ent es.toArray j]
 | [], [], _, j, h => absurd h (Nat.not_lt_zero _)
 | a :: v :: r, e :: es, ⟨h1, h2, h3⟩, 0, _ => by simpa [ent] using h1
 | a :: v :: r, e :: es, ⟨h1, h2, h3⟩, 1, _ => by simpa [ent] using h2
 | a :: v :: r, e :: es, ⟨h1, h2, h3⟩, j + 2, h => by
  have := entL_at h3 j (by simp at h; omega)
  have e1 : ent (e :: es).toArray (j + 2) = ent es.toArray j := by
   unfold ent
   rw [show (j + 2) / 2 = j / 2 + 1 from by omega, show (j + 2) % 2 = j % 2 from by omega]
   simp
  rw [e1]; exact this
theorem findNow_none {d : TypeDesc} {k : Value} (hk : MapKept.IsKey d k) : ∀ (l : List MapEntry) (i : Nat), Instr.findNow d k l i = some none → ∀ x ∈ l, x.key ≠ k
 | [], _, _, x, hx => by cases hx
 | e :: l, i, h, x, hx => by
  unfold Instr.findNow at h
  split at h
  ·cases h
  ·rename_i hs
   rcases List.mem_cons.1 hx with rfl | hx
   ·intro e1
    rw [e1] at hs
    obtain ⟨r, hr, hiff⟩ := MapKept.sameNow_of_keys hk hk
    rw [hr] at hs
    cases hs
    exact absurd (hiff.2 rfl) (by simp)
   ·exact findNow_none hk l _ h x hx
  ·cases h
theorem boxIn_map {b : Nat} {l : List D} {es : List MapEntry} {c : Nat} (hh : w.heap[b]? = some (.map es.toArray c)) (hl : es.length ≤ 4611686018427387904) (h : EntL w g l es) (hst : MapKept.Stamped es.toArray c) : BoxIn w g b true l :=
 ⟨es.toArray, c, hh, by have := entL_len h; simpa using this, by simpa using hl, entL_at h, hst⟩
theorem entL_del {td : TypeDesc} {k : D} {kv : Value} (hk : R w g k [kv]) : ∀ {l l' : List D} {es : List MapEntry} (n : Nat), EntL w g l es → mdel td k l = some l' →
  (Instr.findNow td kv es n = some none ∧ l' = l) ∨ (∃ j u, j < es.length ∧ Instr.findNow td kv es n = some (some (n + j, u)) ∧ EntL w g l' (es.eraseIdx j))
 | [], l', [], n, _, h => by cases h; exact .inl ⟨rfl, rfl⟩
 | a :: u :: r, l', e :: es, n, ⟨h1, h2, h3⟩, h => by
  unfold mdel at h
  unfold Instr.findNow
  split at h
  ·rename_i hs
   cases h
   rw [sameK_now hk h1 hs]
   exact .inr ⟨0, e.val, by simp, rfl, h3⟩
  ·rename_i hs
   rw [Option.map_eq_some_iff] at h
   obtain ⟨r', h, rfl⟩ := h
   rw [sameK_now hk h1 hs]
   rcases entL_del hk (n + 1) h3 h with ⟨q1, q2⟩ | ⟨j, x, q0, q1, q2⟩
   ·exact .inl ⟨q1, by rw [q2]⟩
   ·exact .inr ⟨j + 1, x, by simp; omega, by rw [q1, show n + 1 + j = n + (j + 1) from by omega], by rw [List.eraseIdx_cons_succ]; exact ⟨h1, h2, q2⟩⟩
  ·cases h
theorem entL_ext {w' : World} (e : Ext g w g w') : ∀ {l : List D} {es : List MapEntry}, EntL w g l es → EntL w' g l es
 | [], [], _ => trivial
 | _a :: _v :: _r, _x :: _es, ⟨h1, h2, h3⟩ => ⟨h1.ext e, h2.ext e, entL_ext e h3⟩
theorem RS.mapPut (hr : RS P base w0 ok0 g σ w) {i b : Nat} {l' : List D} {es : List MapEntry} {c : Nat} (hβ : g.β i = some b) (hm : g.mp i = true) (hi : i < σ.bx.length) (hlt : b < w.heap.size) (hl : es.length ≤ 4611686018427387904) (h : EntL w g l' es) (hst : MapKept.Stamped es.toArray c) :
  RS P base w0 ok0 g { σ with bx := σ.bx.set i l' } { w with heap := w.heap.setIfInBounds b (.map es.toArray c) } ∧ Ext g w g { w with heap := w.heap.setIfInBounds b (.map es.toArray c) } := by
 obtain ⟨r1, r2⟩ := RW.put hr (w' := { w with heap := w.heap.setIfInBounds b (.map es.toArray c) }) (cs := l') hβ (by simp) (fun c hc => by simp [Ne.symm hc]) ⟨rfl, rfl, rfl⟩ (fun e => by
  rw [hm]
  exact boxIn_map (c := c) (by simp [hlt]) hl (entL_ext e h) hst)
 refine ⟨r1.same_bx (fun j => ?_), r2⟩
 show (σ.bx.set i _)[j]? = _
 by_cases hj : j = i
 ·subst hj
  rw [if_pos rfl, List.getElem?_set_self hi]
 ·rw [if_neg hj, List.getElem?_set_ne (fun e => hj e.symm)]
theorem mref_at (hr : RS P base w0 ok0 g σ w) {i : Nat} {v : Value} {l : List D} (hv : val w g (.mref i) v) (hl : σ.bx[i]? = some l) : ∃ b es c, v = .map (some b) ∧ g.β i = some b ∧ g.mp i = true ∧ i < σ.bx.length ∧ b < w.heap.size ∧ w.heap[b]? = some (.map es c) ∧ EntL w g l es.toList ∧ es.size ≤ 4611686018427387904 ∧ MapKept.Stamped es c := by
 obtain ⟨cs, h1, rfl⟩ := hv
 cases h1 with
 | mref _ b h0 hm =>
  have := RW.boxesAt hr i l b hl h0
  rw [hm] at this
  obtain ⟨es, clock, q1, q2, q2', q3, q4⟩ := this
  exact ⟨b, es, clock, rfl, h0, hm, (List.getElem?_eq_some_iff.1 hl).1, (RW.dom hr i b h0).2.2.1, q1, entL_of q2 q3, q2', q4⟩
theorem eff_makeMap {t : TypeId} {r : Option Operand} (ho : o.op = .makeMap t r) (hr : RS P base w0 ok0 g σ w) (h : aeff P call σ o = some (d, σ')) : σ'.fr = σ.fr ∧ EffOut P base w0 ok0 g a w o d σ' := by
 simp only [aeff, ho] at h
 split at h
 ·rename_i hn
  cases h
  cases r with
  | some _ => cases hn
  | none =>
  obtain ⟨g', h1, h2, h3⟩ := newMap (i := σ.bx.length) hr (List.getElem?_eq_none (Nat.le_refl _))
  exact ⟨rfl, .inl ⟨_, _, g', by simp only [execOp, ho]; rfl, h1.same_bx (fun i => snoc_at _ _ i), h2, h3⟩⟩
 ·cases h
theorem eff_mapUpdate {t : TypeId} {m k x : Operand} (ho : o.op = .mapUpdate t m k x) (hr : RS P base w0 ok0 g σ w) (hm : val w g (ev σ.fr m) (a.eval m)) (hk : val w g (ev σ.fr k) (a.eval k)) (hx : val w g (ev σ.fr x) (a.eval x)) (h : aeff P call σ o = some (d, σ')) : σ'.fr = σ.fr ∧ EffOut P base w0 ok0 g a w o d σ' := by
 simp only [aeff, ho, amset] at h
 rw [Option.map_eq_some_iff] at h
 obtain ⟨σ1, h, e⟩ := h
 cases e
 split at h
 ·rename_i kt et hu
  split at h
  ·rename_i td hd
   split at h
   ·rename_i hc
    obtain ⟨hko, hva, hvg⟩ := hc
    obtain ⟨hik, hRk⟩ := keyOk_is hk hko
    split at h
    ·rename_i i hmi
     rw [hmi] at hm
     split at h
     ·rename_i l hl
      split at h
      ·rename_i hsm
       rw [Option.map_eq_some_iff] at h
       obtain ⟨l', hput, rfl⟩ := h
       obtain ⟨b, es, c, hv, hβ, hmp, hi, hlt, hh, hEL, hsz, hst⟩ := mref_at hr hm hl
       obtain ⟨u, hu1, _⟩ := ((hx.to1 hvg).val_cells).single hva
       have hRx : R w g (ev σ.fr x) [a.eval x] := by
        obtain ⟨cs, q1, q2⟩ := hx.to1 hvg
        obtain ⟨z, rfl, _⟩ := q1.single hva
        have : pack (ev σ.fr x) [z] = z := by cases hz : ev σ.fr x <;> first | rfl | (rw [hz] at hva; cases hva)
        rw [q2, this]; exact q1
       have hlen := entL_len hEL
       rcases entL_put hRk hik hRx 0 hEL hput with ⟨q1, q2, q3⟩ | ⟨j, u', e', q0, q1, q2, q3, q4, q5⟩
       ·have em : es.push ({ key := a.eval k, val := a.eval x, born := c } : MapEntry) = (es.toList ++ [({ key := a.eval k, val := a.eval x, born := c } : MapEntry)]).toArray := by
         apply Array.toList_inj.1; simp
        obtain ⟨r1, r2⟩ := RS.mapPut hr (c := c + 1) hβ hmp hi hlt (by simp at hlen ⊢; omega) (q2 c) (by rw [← em]; exact MapKept.stamped_push hst (findNow_none hik _ _ q1))
        refine ⟨rfl, .inr (.inl ⟨_, g, ?_, rfl, r1, r2⟩)⟩
        simp only [execOp, ho, hv]
        simp [Instr.mapUpdate, run_underlying hu, MapKept.run_getObj_map hh, MapKept.run_checkKey hd hik, MapKept.run_findKey hd q1, MapKept.run_setObj_map _ hh, Result.andThen]
        rw [em]
       ·have q2' : es[j]? = some e' := by simpa using q2
        have em : es.modify j (fun e => { e with key := a.eval k, val := a.eval x }) = (es.toList.modify j fun e => { e with key := a.eval k, val := a.eval x }).toArray := by
         apply Array.toList_inj.1; simp
        obtain ⟨r1, r2⟩ := RS.mapPut hr (c := c) hβ hmp hi hlt (by simp; omega) q5 (by rw [← em]; exact MapKept.stamped_modify hst j _ (fun _ _ => rfl) (fun e _ he => by rw [q2'] at he; cases he; exact q3.symm))
        refine ⟨rfl, .inr (.inl ⟨_, g, ?_, rfl, r1, r2⟩)⟩
        rw [Nat.zero_add] at q1
        simp only [execOp, ho, hv]
        simp [Instr.mapUpdate, run_underlying hu, MapKept.run_getObj_map hh, MapKept.run_checkKey hd hik, MapKept.run_findKey hd q1, q2', q3, MapKept.run_keyThatStays hik, MapKept.run_setObj_map _ hh, Result.andThen]
        rw [em]
      ·cases h
     ·cases h
    ·cases h
   ·cases h
  ·cases h
 ·cases h
theorem eff_delete {c : Call} (ho : o.op = .call c) (hcal : c.callee = .builtin .delete) (hr : RS P base w0 ok0 g σ w) (hv : ∀ x ∈ o.op.operands, val w g (ev σ.fr x) (a.eval x)) (h : aeff P call σ o = some (d, σ')) : σ'.fr = σ.fr ∧ EffOut P base w0 ok0 g a w o d σ' := by
 simp only [aeff, ho, hcal] at h
 split at h
 ·rename_i m k t ts hargs htys
  have ha : c.args = #[m, k] := by rw [← Array.toArray_toList (xs := c.args), hargs]
  have ht : c.argTypes[0]? = some t := by rw [← Array.getElem?_toList, htys]; rfl
  have hm := hv m (by simp [ho, Op.operands, Call.operands, ha])
  have hk := hv k (by simp [ho, Op.operands, Call.operands, ha])
  have run : ∀ w', (Builtin.delete_ c.argTypes o.type #[a.eval m, a.eval k]).run P w = .ok (.tuple #[]) w' → (execOp a.eval o).run P w = .ok (.value (.tuple #[])) w' := by
   intro w' h1
   unfold execOp
   simp only [ho, resolve, hcal, ha, invoke, builtin, Sem.run_bind, Sem.run_pure, Result.andThen_ok, List.map_toArray, zmc, zmn, h1]
  have htup : ∀ (w' : World), val w' g (.tup []) (.tuple #[]) := fun w' => ⟨[], rfl, rfl, fun j h => absurd h (Nat.not_lt_zero _)⟩
  unfold amdel at h
  rw [Option.map_eq_some_iff] at h
  obtain ⟨σ1, h, e⟩ := h
  cases e
  split at h
  ·rename_i kt et hu
   split at h
   ·rename_i td hd
    split at h
    ·rename_i hko
     obtain ⟨hik, hRk⟩ := keyOk_is hk hko
     split at h
     ·rename_i hmi
      cases h
      rw [hmi] at hm
      obtain ⟨cs, q1, q2⟩ := hm
      cases q1
      have hvm : a.eval m = .map none := q2
      refine ⟨rfl, .inl ⟨_, w, g, run w ?_, hr, Ext.refl _ _, htup w⟩⟩
      simp [Builtin.delete_, ht, run_underlying hu, hvm, MapKept.run_checkKey hd hik, Result.andThen]
     ·rename_i i hmi
      rw [hmi] at hm
      split at h
      ·rename_i l hl
       rw [Option.map_eq_some_iff] at h
       obtain ⟨l', hdel, rfl⟩ := h
       obtain ⟨b, es, c', hvm, hβ, hmp, hi, hlt, hh, hEL, hsz, hst⟩ := mref_at hr hm hl
       rcases entL_del hRk 0 hEL hdel with ⟨q1, rfl⟩ | ⟨j, u', q0, q1, q2⟩
       ·obtain ⟨r1, r2⟩ := RS.mapPut hr (c := c') hβ hmp hi hlt (by simpa using hsz) hEL (by simpa using hst)
        refine ⟨rfl, .inl ⟨_, _, g, run _ ?_, r1, r2, htup _⟩⟩
        simp [Builtin.delete_, ht, run_underlying hu, hvm, MapKept.run_getObj_map hh, MapKept.run_checkKey hd hik, MapKept.run_findKey hd q1, MapKept.run_setObj_map _ hh, Result.andThen]
       ·rw [Nat.zero_add] at q1
        have em : es.eraseIdxIfInBounds j = (es.toList.eraseIdx j).toArray := by
         apply Array.toList_inj.1; simp
        obtain ⟨r1, r2⟩ := RS.mapPut hr (c := c') hβ hmp hi hlt (by rw [List.length_eraseIdx]; split <;> simp <;> omega) q2 (by rw [← em]; exact MapKept.stamped_erase hst j)
        refine ⟨rfl, .inl ⟨_, _, g, run _ ?_, r1, r2, htup _⟩⟩
        simp [Builtin.delete_, ht, run_underlying hu, hvm, MapKept.run_getObj_map hh, MapKept.run_checkKey hd hik, MapKept.run_findKey hd q1, MapKept.run_setObj_map _ hh, Result.andThen, em]
      ·cases h
     ·cases h
    ·cases h
   ·cases h
  ·cases h
 ·cases h
theorem run_vc {c : Call} {f : Operand} (ho : o.op = .call c) (hcal : c.callee = .value f) (hv : ∀ x ∈ o.op.operands, val w g (ev σ.fr x) (a.eval x)) (h : aeff P call σ o = some (d, σ')) :
  ∃ k args vs, (execOp a.eval o).run P w = .ok (.enter k (vs : List Value).toArray) w ∧ vals w g args vs ∧ call k args σ = some (d, σ') := by
 simp only [aeff, ho, hcal] at h
 split at h
 ·rename_i k caps hf
  split at h
  ·rename_i hk
   have hfv := hv f (by simp [ho, Op.operands, Call.operands, hcal])
   rw [hf] at hfv
   obtain ⟨cs, hR, hpk⟩ := hfv
   cases hR with
   | fn _ _ vs hl hna hh =>
    have hav : a.eval f = .func (.func k) #[] vs.toArray := hpk
    refine ⟨k, _, (c.args.toList.map a.eval) ++ vs, ?_, ?_, h⟩
    ·cases hkf : P.funcs[k]? with
     | none => rw [hkf] at hk; simp at hk
     | some fn =>
      rw [hkf] at hk
      simp only [Option.any_some, zat, bne_iff_ne, ne_eq] at hk
      obtain ⟨body, hbody⟩ := Option.isSome_iff_exists.1 hk.1
      unfold execOp
      simp only [ho, resolve, hcal, hav, Deferred.ofValue, invoke, pure_bind, Array.empty_append]
      unfold callFunc
      rw [Sem.run_bind]
      simp [go_sem, hkf, hbody, hk.2]
    ·refine ⟨by simp [hl], fun j h1 h2 => ?_⟩
     by_cases hj : j < (c.args.toList.map (ev σ.fr)).length
     ·rw [List.getElem_append_left hj, List.getElem_append_left (by simpa using hj)]
      simp only [List.getElem_map]
      refine hv _ ?_
      simp only [ho, Op.operands, Call.operands, Array.mem_append]
      exact .inr (by rw [Array.mem_def]; exact List.getElem_mem _)
     ·rw [List.getElem_append_right (by omega), List.getElem_append_right (by simpa using hj)]
      simp only [zlm] at hj ⊢
      have hlt : j - c.args.toList.length < caps.length := by simp only [zla, zlm] at h1; omega
      have hR := hh (j - c.args.toList.length) hlt (by omega)
      exact val_of_R hR (hna _ (List.getElem_mem _))
  ·cases h
 ·cases h

theorem eff_value {c : Call} {f : Operand} (hcall : CallOk P base w0 ok0 call) (ho : o.op = .call c) (hcal : c.callee = .value f) (hr : RS P base w0 ok0 g σ w) (hv : ∀ x ∈ o.op.operands, val w g (ev σ.fr x) (a.eval x)) (h : aeff P call σ o = some (d, σ')) :
  σ'.fr = σ.fr ∧ EffOut P base w0 ok0 g a w o d σ' := by
 obtain ⟨k, args, vs, h1, h2, h3⟩ := run_vc ho hcal hv h
 obtain ⟨hfr, hC⟩ := hcall _ _ _ _ _ h3
 exact ⟨hfr, .inr (.inr ⟨k, _, h1, hC g vs w hr h2⟩)⟩

/-- each operation does in memory what it does on data -/
theorem eff_sound (hcall : CallOk P base w0 ok0 call) (hr : RS P base w0 ok0 g σ w) (hv : ∀ x ∈ o.op.operands, val w g (ev σ.fr x) (a.eval x)) (h : aeff P call σ o = some (d, σ')) : σ'.fr = σ.fr ∧ EffOut P base w0 ok0 g a w o d σ' := by
 have pure : (aop P (ev σ.fr) (fun i => σ.bx[i]?) o).map (fun d => (d, σ)) = some (d, σ') → σ'.fr = σ.fr ∧ EffOut P base w0 ok0 g a w o d σ' := by
  intro h
  rw [Option.map_eq_some_iff] at h
  obtain ⟨d', h1, h2⟩ := h
  cases h2
  obtain ⟨v, q1, q2⟩ := aop_sound (ρ := a.eval) hv (RW.boxesAt hr) h1
  exact ⟨rfl, .inl ⟨v, w, g, q1, hr, Ext.refl _ _, q2⟩⟩
 cases ho : o.op with
 | box t x => exact eff_box ho hr (hv x (by simp [ho, Op.operands])) h
 | alloc t => exact eff_alloc ho hr h
 | buildSlice t len parts => exact eff_buildSlice ho hr (fun p hp => hv p.2 (by simp only [ho, Op.operands]; simpa using ⟨p.1, by simpa using hp⟩)) h
 | makeSlice t x y => exact eff_makeSlice ho hr (hv x (by simp [ho, Op.operands])) (hv y (by simp [ho, Op.operands])) h
 | store t p x => exact eff_store ho hr (hv p (by simp [ho, Op.operands])) (hv x (by simp [ho, Op.operands])) h
 | makeMap t r => exact eff_makeMap ho hr h
 | mapUpdate t m k x => exact eff_mapUpdate ho hr (hv m (by simp [ho, Op.operands])) (hv k (by simp [ho, Op.operands])) (hv x (by simp [ho, Op.operands])) h
 | call c =>
  cases hcal : c.callee with
  | value f => exact eff_value hcall ho hcal hr hv h
  | builtin b =>
   by_cases hb : b = .append
   ·subst hb; exact eff_append ho hcal hr hv h
   ·by_cases hb' : b = .delete
    ·subst hb'; exact eff_delete ho hcal hr hv h
    ·refine pure ?_
     simp only [aeff, ho, hcal] at h
     rw [← h]
     cases b <;> first | rfl | exact absurd rfl hb | exact absurd rfl hb'
  | invoke r n => refine pure ?_; simp only [aeff, ho, hcal] at h; exact h
 | _ => exact pure (by simp only [aeff, ho] at h; exact h)

/-- one operation, in the calculus -/
theorem eff_wp {ro : Option Nat} {n : Nat} {Q : Exit → Act → World → Prop} {K : Act → World → Prop} (hcall : CallOk P base w0 ok0 call) (h : Rel P base w0 ok0 g σ a w) (hok : opOk o = true) (he : aeff P call σ o = some (d, σ'))
  (hK : ∀ a' w' g', Rel P base w0 ok0 g' (σ'.put o.dst d) a' w' → Ext g w g' w' → a'.defers = a.defers → K a' w') : o.wpIn (fence ro) n P a w K Q := by
 obtain ⟨hfr, hout⟩ := eff_sound hcall h.rs (h.ev hok) he
 refine ⟨fun f _ => fence_fn ro f, ?_⟩
 have hnd : ∀ c, o.op ≠ .defer c := fun c e => by
  unfold opOk at hok
  rw [zat, e] at hok
  exact absurd hok.2 (by simp)
 rw [Oper.semAt_plain _ _ _ hnd]
 have hdf : ∀ (dst : Option Tmp) (v : Value), (a.put dst v).defers = a.defers := fun dst v => by cases dst <;> rfl
 rcases hout with ⟨v, w1, g1, h1, h2, h3, h4⟩ | ⟨w1, g1, h1, rfl, h2, h3⟩ | ⟨k, vs, h1, h2⟩
 ·rw [h1]
  exact hK _ _ g1 (h.put h2 hfr h3 h4) h3 (hdf _ _)
 ·rw [h1]
  exact hK _ _ g1 (h.put h2 hfr h3 rfl) h3 (hdf _ _)
 ·rw [h1]
  refine ⟨fun e => absurd e (by rw [fence_depth]; simp), (fence_calls h2).mono ?_⟩
  rintro e w1 ⟨v, g1, rfl, q1, q2, q3⟩
  exact hK _ _ g1 (h.put q1 hfr q2 q3) q2 (hdf _ _)

theorem step_wp {ro : Option Nat} {n : Nat} {Q : Exit → Act → World → Prop} {K : Act → World → Prop} {ops : Array Oper} (hcall : CallOk P base w0 ok0 call) (h : Rel P base w0 ok0 g σ a w) (hok : opOk o = true) (he : astep P call ops.toList σ o = some σ')
  (hK : ∀ a' w' g', Rel P base w0 ok0 g' σ' a' w' → Ext g w g' w' → a'.defers = a.defers → K a' w') :
  if Region.wanted o (yielded ops a.tmps) then o.wpIn (fence ro) n P a w K Q else (∀ f, o.about P w a.eval = some f → (fence ro).fn f) ∧ K (a.put o.dst undef) w := by
 rw [awant_eq h ops o]
 unfold astep at he
 split at he
 ·rename_i hw
  rw [if_pos hw]
  rw [Option.map_eq_some_iff] at he
  obtain ⟨⟨d, σ1⟩, h1, rfl⟩ := he
  exact eff_wp hcall h hok h1 hK
 ·rename_i hw
  rw [if_neg hw]
  cases he
  exact ⟨fun f _ => fence_fn ro f, hK _ _ g (h.put h.rs rfl (Ext.refl _ _) rfl) (Ext.refl _ _) (by cases o.dst <;> rfl)⟩

theorem list_wp {ro : Option Nat} {n : Nat} {Q : Exit → Act → World → Prop} {ops : Array Oper} (hcall : CallOk P base w0 ok0 call) : ∀ {l : List Oper} {g : Gh} {σ : St} {a : Act} {w : World}, Rel P base w0 ok0 g σ a w → l.all opOk = true → aops P call ops.toList l σ = some σ' →
  (∀ a' w' g', Rel P base w0 ok0 g' σ' a' w' → Ext g w g' w' → a'.defers = a.defers → Q .normal a' w') → wpListIn (fence ro) n P ops Q l a w
 | [], g, σ, a, w, h, _, he, hK => by
  cases he
  exact hK a w g h (Ext.refl _ _) rfl
 | o :: r, g, σ, a, w, h, hall, he, hK => by
  simp only [List.all_cons, zat] at hall
  unfold aops at he
  split at he
  ·rename_i σ1 h1
   unfold wpListIn
   exact step_wp hcall h hall.1 h1 (fun a1 w1 g1 q1 q2 q3 => list_wp hcall q1 hall.2 he (fun a' w' g' r1 r2 r3 => hK a' w' g' r1 (q2.trans r2) (r3.trans q3)))
  ·cases he
end

end Go.Proofs.Ytmglacjcefajlaa
