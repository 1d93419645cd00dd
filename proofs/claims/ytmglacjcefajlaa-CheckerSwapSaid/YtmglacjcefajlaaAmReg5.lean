import Derived.Test.YtmglacjcefajlaaAmSeq3
import Derived.Test.YtmglacjcefajlaaBJ

/- A region that draws its order: whatever the order, the data are those of the text's order. Over any program. -/
namespace Go.Proofs.Ytmglacjcefajlaa
open Go.RowKit

/-- what an operation waited for, directly or not, as a mask -/
def maskOf (acc : List Nat) (o : Oper) : Nat := o.after.toList.foldl (fun s e => if Region.binds .any e then s ||| (1 <<< e.on) ||| acc.getD e.on 0 else s) 0
def masksFrom : List Nat → List Oper → List Nat
  | acc, [] => acc
  | acc, o :: r => masksFrom (acc ++ [maskOf acc o]) r
def masks (ops : Array Oper) : List Nat := masksFrom [] ops.toList
def before (m : List Nat) (i j : Nat) : Bool := (m.getD j 0).testBit i

theorem fold_mask {acc : List Nat} {i : Nat} : ∀ (es : List Edge) (s : Nat), (es.foldl (fun s e => if Region.binds .any e then s ||| (1 <<< e.on) ||| acc.getD e.on 0 else s) s).testBit i = true →
    s.testBit i = true ∨ ∃ e ∈ es, Region.binds .any e = true ∧ (e.on = i ∨ (acc.getD e.on 0).testBit i = true)
  | [], s, h => .inl h
  | e :: r, s, h => by
    rw [List.foldl_cons] at h
    rcases fold_mask r _ h with q | ⟨e', he', q⟩
    · split at q
      · rename_i hb
        rw [Nat.testBit_or, Nat.testBit_or, Bool.or_eq_true, Bool.or_eq_true] at q
        rcases q with (q | q) | q
        · exact .inl q
        · refine .inr ⟨e, List.mem_cons_self, hb, .inl ?_⟩
          rw [Nat.one_shiftLeft, Nat.testBit_two_pow] at q
          simpa using q
        · exact .inr ⟨e, List.mem_cons_self, hb, .inr q⟩
      · exact .inl q
    · exact .inr ⟨e', List.mem_cons_of_mem _ he', q⟩

theorem chain_of_mask (ops : Array Oper) : ∀ (r : List Oper) (acc : List Nat), (∀ j, r[j]? = ops[acc.length + j]?) → (∀ j i, (acc.getD j 0).testBit i = true → Chain ops j i) → ∀ j i, ((masksFrom acc r).getD j 0).testBit i = true → Chain ops j i
  | [], acc, _, h, j, i, q => h j i q
  | o :: r, acc, hr, h, j, i, q => by
    rw [masksFrom] at q
    refine chain_of_mask ops r (acc ++ [maskOf acc o]) (fun k => ?_) (fun k i' q' => ?_) j i q
    · have := hr (k + 1)
      simp only [zg1, zla, List.length_singleton] at this ⊢
      rw [this]; congr 1; omega
    · rcases Nat.lt_trichotomy k acc.length with hk | hk | hk
      · rw [List.getD, List.getElem?_append_left hk] at q'; exact h k i' q'
      · subst hk
        rw [List.getD, List.getElem?_append_right (Nat.le_refl _)] at q'
        simp only [Nat.sub_self, zg0, zgd] at q'
        have ho : ops[acc.length]? = some o := by have := hr 0; simpa using this.symm
        rcases fold_mask o.after.toList 0 q' with q2 | ⟨e, he, hb, q2⟩
        · simp at q2
        · have he' : e ∈ o.after := by simpa using he
          rcases q2 with q2 | q2
          · exact .one ho he' hb q2
          · exact .more ho he' hb rfl (h _ _ q2)
      · rw [List.getD, List.getElem?_eq_none (by simp; omega)] at q'; simp at q'

theorem before_chain {ops : Array Oper} {i j : Nat} (h : before (masks ops) i j = true) : Chain ops j i :=
  chain_of_mask ops ops.toList [] (fun j => by simp) (fun j i q => by simp at q) j i h

/-- an operation that may come up in any order -/
def benign (o : Oper) : Bool := match o.op with
  | .store .. => false
  | .makeMap .. => false
  | .mapUpdate .. => false
  | .call c => (match c.callee with
    | .builtin .delete => false
    | _ => true)
  | _ => true
def names (o : Oper) : List Nat := o.op.operands.toList.filterMap (fun x => match x with | .tmp t => some t | _ => none)
def isAlloc : Op → Bool
  | .alloc _ => true
  | _ => false
/-- an address that comes from outside of the region -/
def rootO (ops : Array Oper) (c : Nat) : Nat → Operand → Bool
  | 0, _ => false
  | n + 1, .tmp t => (match (ops.toList.take c).find? (fun o => o.dst == some t) with
    | none => true
    | some o => (match o.op with
      | .fieldAddr _ y _ => rootO ops c n y
      | .nilCheck y => rootO ops c n y
      | .move y => rootO ops c n y
      | .indexAddr _ _ _ => true
      | _ => false))
  | _ + 1, .const _ => true
  | _ + 1, .func _ => true
  | _ + 1, .global _ => false
def rootOk (ops : Array Oper) (c : Nat) (o : Oper) : Bool := match o.op with
  | .load _ x => rootO ops c (c + 1) x
  | _ => true
/-- a store into a variable that the region itself has laid: it may come up ahead of what does not look at the variable -/
def floatOk (ops : Array Oper) (c : Nat) (o : Oper) : Bool := match o.op with
  | .store _ (.tmp t) _ => o.guard.isNone && o.dst.isNone && (List.range c).any (fun a => (match ops[a]? with | some oa => oa.dst == some t && oa.guard.isNone && isAlloc oa.op && before (masks ops) a c | none => false)) &&
    (List.range c).all (fun k => match ops[k]? with | some ok => (!(ok.dst.any fun t' => (names o).contains t') || before (masks ops) k c) && (before (masks ops) k c || rootOk ops c ok) | none => true)
  | _ => false
/-- the region's first c operations may come up in any order that their edges allow; the others come up one after another -/
def drawOkF (fl : Array Oper → Nat → Oper → Bool) (ops : Array Oper) (c : Nat) : Bool :=
  let m := masks ops
  let l := ops.toList.zipIdx
  l.all (fun (o, j) => opOk o && o.after.all (fun e => !Region.binds .any e || decide (e.on < j)) &&
    (if j < c then benign o && (match o.guard with | none => true | some (q, _) => decide (q < j) && before m q j && ((ops[q]?).bind (·.dst)).isSome) &&
      l.all (fun (o', i) => !decide (i < c) || (i == j) || (!(o'.dst.any fun t => (names o).contains t || o.dst == some t) || (decide (i < j) && before m i j && !(o'.dst == o.dst)) || (decide (j < i) && before m j i && !(o'.dst == o.dst))))
    else ((List.range j).all fun i => before m i j) || (j == c && fl ops c o)))
def drawOk (ops : Array Oper) (c : Nat) : Bool := drawOkF floatOk ops c
/-- where the operations begin that come up one after another -/
def cutFrom (m : List Nat) : Nat → Nat
  | 0 => 0
  | j + 1 => if (List.range j).all (fun i => before m i j) then cutFrom m j else j + 1
def cutOf (ops : Array Oper) : Nat := match cutFrom (masks ops) ops.size with
  | 0 => 0
  | c + 1 => (match ops[c]? with
    | some o => if floatOk ops c o then c else c + 1
    | none => c + 1)

theorem drawOk_at {fl : Array Oper → Nat → Oper → Bool} {ops : Array Oper} {c : Nat} (h : drawOkF fl ops c = true) {j : Nat} {o : Oper} (ho : ops[j]? = some o) : opOk o = true ∧ (∀ e ∈ o.after, Region.binds .any e = true → e.on < j) ∧ (c ≤ j → (∀ i, i < j → before (masks ops) i j = true) ∨ (j = c ∧ fl ops c o = true)) ∧
    (j < c → benign o = true ∧ (∀ q want, o.guard = some (q, want) → q < j ∧ before (masks ops) q j = true ∧ ((ops[q]?).bind (·.dst)).isSome = true) ∧
      ∀ i o' t, i < c → i ≠ j → ops[i]? = some o' → o'.dst = some t → (t ∈ names o ∨ o.dst = some t) → ((i < j ∧ before (masks ops) i j = true) ∨ (j < i ∧ before (masks ops) j i = true)) ∧ o.dst ≠ some t) := by
  unfold drawOkF at h
  rw [List.all_eq_true] at h
  have hm : (o, j) ∈ ops.toList.zipIdx := by rw [List.mem_zipIdx_iff_getElem?]; simpa using ho
  have h1 := h (o, j) hm
  simp only [zat] at h1
  obtain ⟨⟨h1, h2⟩, h3⟩ := h1
  refine ⟨h1, fun e he hb => ?_, fun hc => ?_, fun hc => ?_⟩
  · rw [Array.all_eq_true_iff_forall_mem] at h2
    have := h2 e he
    rw [hb] at this
    simpa using this
  · rw [if_neg (by omega), Bool.or_eq_true, List.all_eq_true, zat] at h3
    exact h3.imp (fun h3 i hi => h3 i (List.mem_range.2 hi)) (fun h3 => ⟨by simpa using h3.1, h3.2⟩)
  · rw [if_pos hc] at h3
    simp only [zat] at h3
    obtain ⟨⟨h4, h5⟩, h6⟩ := h3
    refine ⟨h4, fun q want hg => ?_, fun i o' t hi hij ho' ht hn => ?_⟩
    · rw [hg] at h5
      simp only [zat, decide_eq_true_eq] at h5
      exact ⟨h5.1.1, h5.1.2, h5.2⟩
    · rw [List.all_eq_true] at h6
      have hm' : (o', i) ∈ ops.toList.zipIdx := by rw [List.mem_zipIdx_iff_getElem?]; simpa using ho'
      have h7 := h6 (o', i) hm'
      simp only [hi, decide_true, Bool.not_true, Bool.false_or, beq_iff_eq, hij, Bool.or_eq_true, zat, decide_eq_true_eq, ht, Option.any_some, znt, zof] at h7
      have hne : (o'.dst == o.dst) = false → o.dst ≠ some t := fun e q => by rw [ht, q] at e; simp at e
      have h7' : ((((names o).contains t = false ∧ (o.dst == some t) = false) ∨ ((i < j ∧ before (masks ops) i j = true) ∧ (some t == o.dst) = false)) ∨ ((j < i ∧ before (masks ops) j i = true) ∧ (some t == o.dst) = false)) := by simpa using h7
      rcases h7' with (h8 | h8) | h8
      · exfalso
        rcases hn with hn | hn
        · have h9 := h8.1
          rw [List.contains_iff_mem.2 hn] at h9
          cases h9
        · have h9 := h8.2
          rw [hn] at h9
          simp at h9
      · exact ⟨.inl h8.1, hne (by rw [ht]; exact h8.2)⟩
      · exact ⟨.inr h8.1, hne (by rw [ht]; exact h8.2)⟩

end Go.Proofs.Ytmglacjcefajlaa

/- A region that draws its order: the operations that may come up in any order. Over any program. -/
namespace Go.Proofs.Ytmglacjcefajlaa
open Go.RowKit

def pcall (pc : Nat → List D → Option D) : Nat → List D → St → Option (D × St) := fun k args σ => (pc k args).map fun d => (d, σ)

/-- a call that is a function of its arguments -/
structure Known (P : Program) (g : Gh) (w : World) : Prop where
  ok : ∀ b o, g.ok b o → b < w.heap.size
  pr : ∀ b, g.pr b → b < w.heap.size
  it : ∀ v L, g.it v L → IsIter P g.pr v L w
def PContract (P : Program) (k : Nat) (args : List D) (d : D) : Prop := ∀ g vs w, Known P g w → vals w g args vs → Calls P k (vs : List Value).toArray w fun e w' =>
  ∃ v g', e = .returned v ∧ Below w.heap.size w w' ∧ Grown P g w g' w' ∧ val w' g' d v
/-- where nothing but cells has come to be known -/
theorem PContract.of_cells {P : Program} {k : Nat} {args : List D} {d : D} (h : ∀ g vs w, (∀ b o, g.ok b o → b < w.heap.size) → vals w g args vs → Calls P k (vs : List Value).toArray w fun e w' =>
    ∃ v, e = .returned v ∧ Below w.heap.size w w' ∧ val w' { g with ok := fun b o => g.ok b o ∨ (w.heap.size ≤ b ∧ b < w'.heap.size) } d v) : PContract P k args d := by
  intro g vs w hk hv
  refine (h g vs w hk.ok hv).mono ?_
  rintro e w' ⟨v, rfl, hb, hd⟩
  exact ⟨v, _, rfl, hb, Grown.of_ok hb hk.pr hk.it (fun _ _ q => .inl q) (fun _ _ q => q), hd⟩
def PCallOk (P : Program) (pc : Nat → List D → Option D) : Prop := ∀ k args d, pc k args = some d → PContract P k args d

section
variable {P : Program} {base : Nat} {w0 : World} {ok0 : Gh} {pc : Nat → List D → Option D}

theorem pcall_rw (h : PCallOk P pc) {k : Nat} {args : List D} {d : D} (hk : pc k args = some d) {g : Gh} {bxf : Nat → Option (List D)} {K lv : Nat → Prop} {vs : List Value} {w : World} (hr : RW P base w0 ok0 g bxf K lv w) (hv : vals w g args vs) :
    Calls P k vs.toArray w fun e w' => ∃ v g', e = .returned v ∧ RW P base w0 ok0 g' bxf K lv w' ∧ Ext g w g' w' ∧ val w' g' d v := by
  refine (h k args d hk g vs w ⟨fun b o q => hr.ok_lt q, fun b q => (hr.prot b q).1, hr.iter⟩ hv).mono ?_
  rintro e w' ⟨v, g', rfl, hb, hg, hd⟩
  obtain ⟨h1, h2⟩ := hr.grows hb hg
  exact ⟨v, _, rfl, h1, h2, hd⟩

variable {g : Gh} {a : Act} {w : World} {o : Oper} {d : D} {bxf : Nat → Option (List D)} {K lv : Nat → Prop} {σ σ' : St}

def PreOut (P : Program) (base : Nat) (w0 : World) (ok0 : Gh) (g : Gh) (a : Act) (w : World) (o : Oper) (d : D) (bx' : Nat → Option (List D)) (K' lv' : Nat → Prop) : Prop :=
  (∃ v w1 g1, (execOp a.eval o).run P w = .ok (.value v) w1 ∧ RW P base w0 ok0 g1 bx' K' lv' w1 ∧ Ext g w g1 w1 ∧ val w1 g1 d v) ∨
  (∃ k vs, (execOp a.eval o).run P w = .ok (.enter k vs) w ∧ Calls P k vs w fun e w' => ∃ v g', e = .returned v ∧ RW P base w0 ok0 g' bx' K' lv' w' ∧ Ext g w g' w' ∧ val w' g' d v)

/-- the boxes into which an operation looks -/
def Sees (fr : List D) (o : Oper) (i : Nat) : Prop := (∃ t x off, o.op = .load t x ∧ ev fr x = .ptr i off) ∨ ∃ x ∈ o.op.operands, ev fr x = .mref i
open Classical in
noncomputable def seen (fr : List D) (o : Oper) (bx : Nat → Option (List D)) (i : Nat) : Option (List D) := if Sees fr o i then bx i else none
theorem seen_some {fr : List D} {o : Oper} {bx : Nat → Option (List D)} {i : Nat} {cs : List D} (h : seen fr o bx i = some cs) : Sees fr o i ∧ bx i = some cs := by
  unfold seen at h
  split at h
  · exact ⟨‹_›, h⟩
  · cases h
theorem aop_seen {P : Program} {fr : List D} {o : Oper} {bx : Nat → Option (List D)} : aop P (ev fr) bx o = aop P (ev fr) (seen fr o bx) o := by
  have key : ∀ i, Sees fr o i → seen fr o bx i = bx i := fun i h => by unfold seen; rw [if_pos h]
  have hm : ∀ x ∈ o.op.operands, mcont (seen fr o bx) (ev fr x) = mcont bx (ev fr x) := by
    intro x hx
    cases hd : ev fr x <;> simp only [mcont]
    exact key _ (.inr ⟨x, hx, hd⟩)
  unfold aop
  cases ho : o.op <;> first | rfl | skip
  case load t a =>
    simp only
    cases tyOf P t with
    | none => rfl
    | some y =>
      simp only
      cases hd : ev fr a <;> first | rfl | skip
      simp only
      rw [key _ (.inl ⟨t, a, _, ho, hd⟩)]
  case lookup t x k cok =>
    simp only [alook]
    rw [hm x (by simp [ho, Op.operands])]
  case call c =>
    simp only
    cases hc : c.callee with
    | value f => rfl
    | invoke r n => rfl
    | builtin b =>
      cases b <;> first | rfl | skip
      simp only
      cases ha : c.args.toList with
      | nil => rfl
      | cons x r =>
        cases r with
        | cons _ _ => rfl
        | nil =>
          cases ht : c.argTypes.toList with
          | nil => rfl
          | cons t r =>
            cases r with
            | cons _ _ => rfl
            | nil =>
              simp only
              have hx : x ∈ o.op.operands := by
                have : c.args = #[x] := by rw [← Array.toArray_toList (xs := c.args), ha]
                simp [ho, Op.operands, Call.operands, hc, this]
              cases hd : ev fr x with
              | mref i => cases hu : P.underlying t with
                | none => rfl
                | some u => cases u <;> first | rfl | (simp only; rw [key _ (.inr ⟨x, hx, hd⟩)])
              | _ => cases P.underlying t with
                | none => rfl
                | some u => cases u <;> rfl

/-- an operation ahead of the stores, whatever has come up before -/
theorem pre_eff (hpc : PCallOk P pc) (hr : RW P base w0 ok0 g bxf K lv w) (hben : benign o = true) (hv : ∀ x ∈ o.op.operands, val w g (ev σ.fr x) (a.eval x)) (hbx : ∀ i cs b, Sees σ.fr o i → σ.bx[i]? = some cs → g.β i = some b → bxf i = some cs)
    (hfb : σ'.bx.length = σ.bx.length + 1 → bxf σ.bx.length = none) (hfs : σ'.nx = σ.nx + 1 → ¬ K σ.nx) (hlive : ∀ st, st ∈ σ.lv → st ∉ σ'.lv → K st → lv st) (h : aeff P (pcall pc) σ o = some (d, σ')) :
    σ'.fr = σ.fr ∧ ((σ' = σ ∧ PreOut P base w0 ok0 g a w o d bxf K lv) ∨
      (∃ cs, σ' = { σ with bx := σ.bx ++ [cs] } ∧ PreOut P base w0 ok0 g a w o d (fun i => if i = σ.bx.length then some cs else bxf i) K lv) ∨
      (∃ lv1 : List Nat, σ' = { σ with nx := σ.nx + 1, lv := σ.nx :: lv1 } ∧ (∀ j ∈ lv1, j ∈ σ.lv) ∧ PreOut P base w0 ok0 g a w o d bxf (fun j => K j ∨ j = σ.nx) (fun j => (lv j ∧ (j ∈ lv1 ∨ j ∉ σ.lv)) ∨ j = σ.nx))) := by
  have hat : BoxesAt w g (seen σ.fr o fun i => σ.bx[i]?) := fun i cs b h1 h2 => by
    obtain ⟨q1, q2⟩ := seen_some h1
    exact hr.boxesAt i cs b (hbx i cs b q1 q2 h2) h2
  have pure : (aop P (ev σ.fr) (fun i => σ.bx[i]?) o).map (fun d => (d, σ)) = some (d, σ') → σ'.fr = σ.fr ∧ ((σ' = σ ∧ PreOut P base w0 ok0 g a w o d bxf K lv) ∨
      (∃ cs, σ' = { σ with bx := σ.bx ++ [cs] } ∧ PreOut P base w0 ok0 g a w o d (fun i => if i = σ.bx.length then some cs else bxf i) K lv) ∨
      (∃ lv1 : List Nat, σ' = { σ with nx := σ.nx + 1, lv := σ.nx :: lv1 } ∧ (∀ j ∈ lv1, j ∈ σ.lv) ∧ PreOut P base w0 ok0 g a w o d bxf (fun j => K j ∨ j = σ.nx) (fun j => (lv j ∧ (j ∈ lv1 ∨ j ∉ σ.lv)) ∨ j = σ.nx))) := by
    intro h
    rw [Option.map_eq_some_iff] at h
    obtain ⟨d', h1, h2⟩ := h
    cases h2
    rw [aop_seen] at h1
    obtain ⟨v, q1, q2⟩ := aop_sound (ρ := a.eval) hv hat h1
    exact ⟨rfl, .inl ⟨rfl, .inl ⟨v, w, g, q1, hr, Ext.refl _ _, q2⟩⟩⟩
  cases ho : o.op with
  | box t x =>
    obtain ⟨cs, vs, h1, rfl, rfl, h2⟩ := run_bx ho (hv x (by simp [ho, Op.operands])) h
    obtain ⟨g', r1, r2, r3⟩ := newBox (i := σ.bx.length) hr t (hfb (by simp)) h1
    exact ⟨rfl, .inr (.inl ⟨cs, rfl, .inl ⟨_, _, g', h2, r1, r2, r3⟩⟩)⟩
  | alloc t =>
    obtain ⟨cs, vs, h1, rfl, rfl, h2⟩ := run_al (w := w) (g := g) (a := a) ho h
    obtain ⟨g', r1, r2, r3⟩ := newBox (i := σ.bx.length) hr t (hfb (by simp)) h1
    exact ⟨rfl, .inr (.inl ⟨cs, rfl, .inl ⟨_, _, g', h2, r1, r2, r3⟩⟩)⟩
  | buildSlice t len parts =>
    obtain ⟨rfl, v, w1, g1, q1, q2, q3, q4⟩ := run_bs ho hr (fun q => by
      have hsig : σ'.nx = σ.nx + 1 := by
        simp only [aeff, ho, abuild] at h
        split at h
        · split at h
          · split at h
            · cases h; rfl
            · cases h
          · cases h
        · cases h
      exact hfs hsig q) (fun p hp => hv p.2 (by simp only [ho, Op.operands]; simpa using ⟨p.1, by simpa using hp⟩)) h
    exact ⟨rfl, .inr (.inr ⟨σ.lv, rfl, fun _ q => q, .inl ⟨v, w1, g1, q1, q2.drop (fun j q => q.imp (fun q => q.1) id), q3, q4⟩⟩)⟩
  | makeSlice t x y =>
    obtain ⟨rfl, v, w1, g1, q1, q2, q3, q4⟩ := run_mk ho hr (fun q => by
      have hsig : σ'.nx = σ.nx + 1 := by
        simp only [aeff, ho, amake] at h
        split at h
        · split at h
          · split at h
            · split at h
              · cases h; rfl
              · cases h
            · cases h
          · cases h
        · cases h
      exact hfs hsig q) (hv x (by simp [ho, Op.operands])) (hv y (by simp [ho, Op.operands])) h
    exact ⟨rfl, .inr (.inr ⟨σ.lv, rfl, fun _ q => q, .inl ⟨v, w1, g1, q1, q2.drop (fun j q => q.imp (fun q => q.1) id), q3, q4⟩⟩)⟩
  | store t p x => simp [benign, ho] at hben
  | makeMap t r => simp [benign, ho] at hben
  | mapUpdate t m k x => simp [benign, ho] at hben
  | call c =>
    cases hcal : c.callee with
    | value f =>
      obtain ⟨k, args, vs, h1, h2, h3⟩ := run_vc ho hcal hv h
      unfold pcall at h3
      rw [Option.map_eq_some_iff] at h3
      obtain ⟨d', hk, e⟩ := h3
      cases e
      exact ⟨rfl, .inl ⟨rfl, .inr ⟨k, _, h1, pcall_rw hpc hk hr h2⟩⟩⟩
    | builtin b =>
      by_cases hb : b = .append
      · subst hb
        simp only [aeff, ho, hcal] at h
        split at h
        · rename_i s x t t' hargs htys
          split at h
          · rename_i htt
            subst htt
            have ha : c.args = #[s, x] := by rw [← Array.toArray_toList (xs := c.args), hargs]
            have ht : c.argTypes = #[t, t] := by rw [← Array.toArray_toList (xs := c.argTypes), htys]
            have hs := hv s (by simp [ho, Op.operands, Call.operands, ha])
            have hx := hv x (by simp [ho, Op.operands, Call.operands, ha])
            unfold aappend at h
            split at h
            · rename_i e hu
              split at h
              · rename_i i q n l q2 n2 l2 hi hse hxe
                rw [hse] at hs
                rw [hxe] at hx
                split at h
                · rename_i hl2
                  cases h
                  subst hl2
                  obtain ⟨A, cap, hv1, hle⟩ := val_slice_in hs
                  obtain ⟨A2, cap2, hv2, hle2⟩ := val_slice_in hx
                  refine ⟨rfl, .inl ⟨rfl, .inl ⟨_, w, g, exec_append2 ho hcal ha ht ?_, hr, Ext.refl _ _, hs⟩⟩⟩
                  rw [hv1, hv2]
                  cases A <;> cases A2 <;> simp [Builtin.append_, run_underlying hu, sizeOf, typeInfo, hi, Builtin.lenOf, Builtin.firstCells, hle, loadCells, loadCellsFrom, storeCells]
                · rename_i hl2
                  split at h
                  · rename_i hc
                    obtain ⟨hn2, hpos, hby, hz, hlen⟩ := hc
                    subst hn2
                    rw [Option.map_eq_some_iff] at hz
                    obtain ⟨z, hz, hzs⟩ := hz
                    have hbt : (l.length + l2.length) * i.bytes ≤ 140737488355328 := Nat.le_trans (Nat.mul_le_mul hlen hby) (by omega)
                    have key : ∀ (_ : ¬ K σ.nx) (hq : (q = .nil ∧ l = []) ∨ (∃ st, q = .own st e ∧ lv st ∧ n = i.size) ∨ (q = .clip ∧ (l = [] ∨ n = i.size))) (lv1 : List Nat), (∀ j, (lv j ∧ (j ∈ lv1 ∨ j ∉ σ.lv)) → q ≠ .own j e) →
                        PreOut P base w0 ok0 g a w o (.slice (.own σ.nx e) i.size (l ++ l2)) bxf (fun j => K j ∨ j = σ.nx) (fun j => (lv j ∧ (j ∈ lv1 ∨ j ∉ σ.lv)) ∨ j = σ.nx) := by
                      intro hnk hq lv1 hlv
                      obtain ⟨v', w', g', h1, h2, h3, h4⟩ := append_sound (ty := o.type) hr hu hi hz hzs hpos hs hx hl2 hq (s := σ.nx) hnk (by simp only [maxLen]; omega) hbt
                      exact .inl ⟨v', w', g', exec_append2 ho hcal ha ht h1, h2.drop (fun s q => q.imp (fun q => ⟨q.1, hlv s q⟩) id), h3, h4⟩
                    split at h
                    · split at h
                      · rename_i hl0
                        cases h
                        exact ⟨rfl, .inr (.inr ⟨σ.lv, rfl, fun _ q => q, key (hfs rfl) (.inl ⟨rfl, hl0⟩) _ (fun j _ => by simp)⟩)⟩
                      · cases h
                    · rename_i st e'
                      split at h
                      · rename_i hc2
                        obtain ⟨rfl, rfl, hst⟩ := hc2
                        cases h
                        have hKst : K st := by
                          obtain ⟨A, cap, cs, _, _, _, how, _⟩ := val_slice hs
                          exact hr.fresh st _ (how st e' rfl)
                        have hne : st ≠ σ.nx := fun e => hfs rfl (e ▸ hKst)
                        refine ⟨rfl, .inr (.inr ⟨σ.lv.filter (· != st), rfl, fun j q => (List.mem_filter.1 q).1, key (hfs rfl) (.inr (.inl ⟨st, rfl, hlive st hst (fun q => ?_) hKst, rfl⟩)) _ (fun j q e => ?_)⟩)⟩
                        · simp only [List.mem_cons, List.mem_filter, bne_self_eq_false, zft, and_false, or_false] at q
                          exact hne q
                        · cases e
                          rcases q.2 with q | q
                          · simp [List.mem_filter] at q
                          · exact q hst
                      · cases h
                    · split at h
                      · rename_i hc2
                        cases h
                        exact ⟨rfl, .inr (.inr ⟨σ.lv, rfl, fun _ q => q, key (hfs rfl) (.inr (.inr ⟨rfl, hc2⟩)) _ (fun j _ => by simp)⟩)⟩
                      · cases h
                    · cases h
                  · cases h
              · cases h
            · cases h
          · cases h
        · cases h
      · by_cases hb' : b = .delete
        · subst hb'; simp [benign, ho, hcal] at hben
        · refine pure ?_
          simp only [aeff, ho, hcal] at h
          rw [← h]
          cases b <;> first | rfl | exact absurd rfl hb | exact absurd rfl hb'
    | invoke r n => refine pure ?_; simp only [aeff, ho, hcal] at h; exact h
  | _ => exact pure (by simp only [aeff, ho] at h; exact h)

/-- the states of the text's order -/
structure Trace (P : Program) (pc : Nat → List D → Option D) (ops : Array Oper) (c : Nat) (s : Nat → St) (dv : Nat → D) : Prop where
  step : ∀ j o, j < c → ops[j]? = some o → ∃ σ', (if awant ops.toList (s j).fr o then aeff P (pcall pc) (s j) o = some (dv j, σ') else (dv j = .undef ∧ σ' = s j)) ∧ s (j + 1) = σ'.put o.dst (dv j)

theorem trace_of {ops : Array Oper} : ∀ (l : List Oper) (σ σ' : St) (k : Nat), (∀ j, j < l.length → l[j]? = ops[k + j]?) → aops P (pcall pc) ops.toList l σ = some σ' →
    ∃ (s : Nat → St) (dv : Nat → D), s k = σ ∧ s (k + l.length) = σ' ∧ ∀ j o, k ≤ j → j < k + l.length → ops[j]? = some o → ∃ σ'', (if awant ops.toList (s j).fr o then aeff P (pcall pc) (s j) o = some (dv j, σ'') else (dv j = .undef ∧ σ'' = s j)) ∧ s (j + 1) = σ''.put o.dst (dv j)
  | [], σ, σ', k, _, h => by
    cases h
    exact ⟨fun _ => σ, fun _ => .undef, rfl, rfl, fun j o h1 h2 => by simp at h2; omega⟩
  | o :: r, σ, σ', k, hl, h => by
    unfold aops at h
    split at h
    · rename_i σ1 h1
      obtain ⟨s, dv, e1, e2, e3⟩ := trace_of r σ1 σ' (k + 1) (fun j hj => by
        have := hl (j + 1) (by simp; omega)
        simp only [zg1] at this
        rw [this]; congr 1; omega) h
      have h0 : ops[k]? = some o := by have := hl 0 (by simp); simpa using this.symm
      obtain ⟨d0, σ0, hd0, hs0⟩ : ∃ d0 σ0, (if awant ops.toList σ.fr o then aeff P (pcall pc) σ o = some (d0, σ0) else (d0 = .undef ∧ σ0 = σ)) ∧ σ1 = σ0.put o.dst d0 := by
        unfold astep at h1
        split at h1
        · rename_i hw
          rw [Option.map_eq_some_iff] at h1
          obtain ⟨⟨d0, σ0⟩, q1, q2⟩ := h1
          exact ⟨d0, σ0, by rw [if_pos hw]; exact q1, q2.symm⟩
        · rename_i hw
          cases h1
          exact ⟨.undef, σ, by rw [if_neg hw]; exact ⟨rfl, rfl⟩, rfl⟩
      refine ⟨fun j => if j = k then σ else s j, fun j => if j = k then d0 else dv j, by simp, ?_, ?_⟩
      · dsimp only; rw [if_neg (by simp), ← e2]; congr 1; simp; omega
      · intro j o' hj1 hj2 ho'
        by_cases hjk : j = k
        · subst hjk
          rw [h0] at ho'
          cases ho'
          refine ⟨σ0, by simpa using hd0, ?_⟩
          dsimp only
          rw [if_neg (by omega), e1]
          simpa using hs0
        · obtain ⟨σ'', q1, q2⟩ := e3 j o' (by omega) (by simp at hj2; omega) ho'
          refine ⟨σ'', by simpa [hjk] using q1, ?_⟩
          dsimp only
          rw [if_neg (by omega), if_neg hjk]
          exact q2
    · cases h
end

end Go.Proofs.Ytmglacjcefajlaa

/- A region that draws its order: the whole. Over any program. -/
namespace Go.Proofs.Ytmglacjcefajlaa
open Go.RowKit

theorem aeff_shape {P : Program} {pc : Nat → List D → Option D} {σ σ' : St} {o : Oper} {d : D} (hben : benign o = true) (h : aeff P (pcall pc) σ o = some (d, σ')) :
    σ' = σ ∨ (∃ cs, σ' = { σ with bx := σ.bx ++ [cs] }) ∨ (∃ lv1 : List Nat, σ' = { σ with nx := σ.nx + 1, lv := σ.nx :: lv1 } ∧ ∀ j ∈ lv1, j ∈ σ.lv) := by
  have pure : (aop P (ev σ.fr) (fun i => σ.bx[i]?) o).map (fun d => (d, σ)) = some (d, σ') → σ' = σ := by
    intro h
    rw [Option.map_eq_some_iff] at h
    obtain ⟨d', _, h2⟩ := h
    cases h2; rfl
  unfold aeff at h
  split at h
  · split at h
    · cases h; exact .inr (.inl ⟨_, rfl⟩)
    · cases h
  · split at h
    · cases h; exact .inr (.inl ⟨_, rfl⟩)
    · cases h
  · unfold abuild at h
    split at h
    · split at h
      · split at h
        · cases h; exact .inr (.inr ⟨_, rfl, fun _ q => q⟩)
        · cases h
      · cases h
    · cases h
  · unfold amake at h
    split at h
    · split at h
      · split at h
        · split at h
          · cases h; exact .inr (.inr ⟨_, rfl, fun _ q => q⟩)
          · cases h
        · cases h
      · cases h
    · cases h
  · rename_i ho
    simp [benign, ho] at hben
  · rename_i ho
    simp [benign, ho] at hben
  · rename_i ho
    simp [benign, ho] at hben
  · rename_i c ho
    split at h
    · rename_i hc
      simp [benign, ho, hc] at hben
    · split at h
      · split at h
        · unfold aappend at h
          split at h
          · split at h
            · split at h
              · cases h; exact .inl rfl
              · split at h
                · split at h
                  · split at h
                    · cases h; exact .inr (.inr ⟨_, rfl, fun _ q => q⟩)
                    · cases h
                  · split at h
                    · cases h; exact .inr (.inr ⟨_, rfl, fun _ q => (List.mem_filter.1 q).1⟩)
                    · cases h
                  · split at h
                    · cases h; exact .inr (.inr ⟨_, rfl, fun _ q => q⟩)
                    · cases h
                  · cases h
                · cases h
            · cases h
          · cases h
        · cases h
      · cases h
    · split at h
      · split at h
        · unfold pcall at h
          rw [Option.map_eq_some_iff] at h
          obtain ⟨d', _, h2⟩ := h
          cases h2; exact .inl rfl
        · cases h
      · cases h
    · exact .inl (pure h)
  · exact .inl (pure h)

section
variable {fl : Array Oper → Nat → Oper → Bool} {P : Program} {base : Nat} {w0 : World} {ok0 : Gh} {pc : Nat → List D → Option D} {ops : Array Oper} {c : Nat} {s : Nat → St} {dv : Nat → D}

def dstAt (ops : Array Oper) (i : Nat) : Option Tmp := (ops[i]?).bind (·.dst)

theorem Trace.shape (T : Trace P pc ops c s dv) (hok : drawOkF fl ops c = true) {j : Nat} {o : Oper} (hj : j < c) (ho : ops[j]? = some o) : ∃ σ', (σ' = s j ∨ (∃ cs, σ' = { s j with bx := (s j).bx ++ [cs] }) ∨ (∃ lv1 : List Nat, σ' = { s j with nx := (s j).nx + 1, lv := (s j).nx :: lv1 } ∧ ∀ i ∈ lv1, i ∈ (s j).lv)) ∧ s (j + 1) = σ'.put o.dst (dv j) := by
  obtain ⟨σ', h1, h2⟩ := T.step j o hj ho
  refine ⟨σ', ?_, h2⟩
  split at h1
  · exact aeff_shape ((drawOk_at hok ho).2.2.2 hj).1 h1
  · exact .inl h1.2

theorem put_bx (σ : St) (dst : Option Tmp) (d : D) : (σ.put dst d).bx = σ.bx ∧ (σ.put dst d).nx = σ.nx ∧ (σ.put dst d).lv = σ.lv ∧ (σ.put dst d).fr.length = σ.fr.length := by
  cases dst <;> simp [St.put]

/-- one step of the text's order -/
theorem Trace.one (T : Trace P pc ops c s dv) (hok : drawOkF fl ops c = true) {j : Nat} (hj : j < c) (hs : j < ops.size) :
    (s (j + 1)).fr.length = (s j).fr.length ∧ (∀ t, dstAt ops j ≠ some t → (s (j + 1)).fr[t]? = (s j).fr[t]?) ∧ (∀ t, dstAt ops j = some t → t < (s j).fr.length → (s (j + 1)).fr[t]? = some (dv j)) ∧
    ((s (j + 1)).bx = (s j).bx ∨ ∃ cs, (s (j + 1)).bx = (s j).bx ++ [cs]) ∧ (((s (j + 1)).nx = (s j).nx ∧ (s (j + 1)).lv = (s j).lv) ∨ ((s (j + 1)).nx = (s j).nx + 1 ∧ ∃ lv1 : List Nat, (s (j + 1)).lv = (s j).nx :: lv1 ∧ ∀ i ∈ lv1, i ∈ (s j).lv)) := by
  have ho : ops[j]? = some ops[j] := Array.getElem?_eq_getElem hs
  obtain ⟨σ', h1, h2⟩ := T.shape hok hj ho
  obtain ⟨p1, p2, p3, p4⟩ := put_bx σ' ops[j].dst (dv j)
  have hfr : σ'.fr = (s j).fr := by rcases h1 with h1 | ⟨cs, h1⟩ | ⟨lv1, h1, _⟩ <;> rw [h1]
  have hd : dstAt ops j = ops[j].dst := by simp [dstAt, ho]
  rw [h2, p1, p2, p3, p4, hfr, hd]
  refine ⟨rfl, fun t ht => ?_, fun t ht hl => ?_, ?_, ?_⟩
  · cases hdd : ops[j].dst with
    | none => simp [St.put, hfr]
    | some t' =>
      rw [hdd] at ht
      simp only [St.put, hfr]
      rw [List.getElem?_set_ne (fun e => ht (by rw [e]))]
  · rw [ht]
    simp only [St.put, hfr]
    rw [List.getElem?_set_self hl]
  · rcases h1 with h1 | ⟨cs, h1⟩ | ⟨lv1, h1, _⟩
    · exact .inl (by rw [h1])
    · exact .inr ⟨cs, by rw [h1]⟩
    · exact .inl (by rw [h1])
  · rcases h1 with h1 | ⟨cs, h1⟩ | ⟨lv1, h1, hl1⟩
    · exact .inl (by rw [h1]; exact ⟨rfl, rfl⟩)
    · exact .inl (by rw [h1]; exact ⟨rfl, rfl⟩)
    · exact .inr (by rw [h1]; exact ⟨rfl, lv1, rfl, hl1⟩)

theorem Trace.len (T : Trace P pc ops c s dv) (hok : drawOkF fl ops c = true) (hc : c ≤ ops.size) : ∀ j, j ≤ c → (s j).fr.length = (s 0).fr.length
  | 0, _ => rfl
  | j + 1, h => by rw [(T.one hok (show j < c by omega) (by omega)).1, T.len hok hc j (by omega)]
theorem Trace.old (T : Trace P pc ops c s dv) (hok : drawOkF fl ops c = true) (hc : c ≤ ops.size) : ∀ j, j ≤ c → ∀ t, (∀ i, i < j → dstAt ops i ≠ some t) → (s j).fr[t]? = (s 0).fr[t]?
  | 0, _, _, _ => rfl
  | j + 1, h, t, ht => by rw [(T.one hok (show j < c by omega) (by omega)).2.1 t (ht j (by omega)), T.old hok hc j (by omega) t (fun i hi => ht i (by omega))]
/-- no two of the first operations write one slot -/
theorem dst_apart (hok : drawOkF fl ops c = true) {i j t : Nat} (hi : i < c) (hj : j < c) (hc : c ≤ ops.size) (h1 : dstAt ops i = some t) (h2 : dstAt ops j = some t) : i = j := by
  by_cases e : i = j
  · exact e
  · exfalso
    have oi : ops[i]? = some ops[i] := Array.getElem?_eq_getElem (by omega)
    have oj : ops[j]? = some ops[j] := Array.getElem?_eq_getElem (by omega)
    have d1 : ops[i].dst = some t := by simpa [dstAt, oi] using h1
    have d2 : ops[j].dst = some t := by simpa [dstAt, oj] using h2
    exact (((drawOk_at hok oj).2.2.2 hj).2.2 i _ t hi e oi d1 (.inr d2)).2 d2
theorem Trace.new (T : Trace P pc ops c s dv) (hok : drawOkF fl ops c = true) (hc : c ≤ ops.size) : ∀ j, j ≤ c → ∀ i t, i < j → dstAt ops i = some t → t < (s 0).fr.length → (s j).fr[t]? = some (dv i)
  | 0, _, i, _, h, _, _ => absurd h (Nat.not_lt_zero _)
  | j + 1, h, i, t, hi, hd, ht => by
    have one := T.one hok (show j < c by omega) (by omega)
    by_cases e : i = j
    · subst e
      exact one.2.2.1 t hd (by rw [T.len hok hc i (by omega)]; exact ht)
    · rw [one.2.1 t (fun q => e (dst_apart hok (by omega) (by omega) hc hd q))]
      exact T.new hok hc j (by omega) i t (by omega) hd ht

theorem Trace.bx (T : Trace P pc ops c s dv) (hok : drawOkF fl ops c = true) (hc : c ≤ ops.size) (j : Nat) : ∀ k, j ≤ k → k ≤ c → (s j).bx.length ≤ (s k).bx.length ∧ ∀ i, i < (s j).bx.length → (s k).bx[i]? = (s j).bx[i]?
  | k, h1, h2 => by
    induction k with
    | zero =>
      obtain rfl : j = 0 := by omega
      exact ⟨Nat.le_refl _, fun _ _ => rfl⟩
    | succ k ih =>
      by_cases e : j = k + 1
      · subst e; exact ⟨Nat.le_refl _, fun _ _ => rfl⟩
      · obtain ⟨l1, l2⟩ := ih (by omega) (by omega)
        rcases (T.one hok (show k < c by omega) (by omega)).2.2.2.1 with q | ⟨cs, q⟩
        · rw [q]; exact ⟨l1, l2⟩
        · rw [q]
          refine ⟨by simp; omega, fun i hi => ?_⟩
          rw [List.getElem?_append_left (by omega)]; exact l2 i hi
theorem Trace.nx (T : Trace P pc ops c s dv) (hok : drawOkF fl ops c = true) (hc : c ≤ ops.size) (j : Nat) : ∀ k, j ≤ k → k ≤ c → (s j).nx ≤ (s k).nx
  | k, h1, h2 => by
    induction k with
    | zero =>
      obtain rfl : j = 0 := by omega
      exact Nat.le_refl _
    | succ k ih =>
      by_cases e : j = k + 1
      · subst e; exact Nat.le_refl _
      · have := ih (by omega) (by omega)
        rcases (T.one hok (show k < c by omega) (by omega)).2.2.2.2 with q | q <;> omega
theorem Trace.made (T : Trace P pc ops c s dv) (hok : drawOkF fl ops c = true) (hc : c ≤ ops.size) : ∀ k, k ≤ c → ∀ i, (s 0).bx.length ≤ i → i < (s k).bx.length → ∃ j, j < k ∧ (s j).bx.length = i ∧ (s (j + 1)).bx.length = i + 1
  | 0, _, i, h1, h2 => by omega
  | k + 1, h, i, h1, h2 => by
    rcases (T.one hok (show k < c by omega) (by omega)).2.2.2.1 with q | ⟨cs, q⟩
    · rw [q] at h2
      obtain ⟨j, q1, q2⟩ := T.made hok hc k (by omega) i h1 h2
      exact ⟨j, by omega, q2⟩
    · by_cases e : i = (s k).bx.length
      · exact ⟨k, by omega, e.symm, by rw [q, e]; simp⟩
      · rw [q] at h2
        simp only [zla, List.length_singleton] at h2
        obtain ⟨j, q1, q2⟩ := T.made hok hc k (by omega) i h1 (by omega)
        exact ⟨j, by omega, q2⟩
theorem Trace.live (T : Trace P pc ops c s dv) (hok : drawOkF fl ops c = true) (hc : c ≤ ops.size) : ∀ k, k ≤ c → ∀ i, i ∈ (s k).lv → i ∈ (s 0).lv ∨ ∃ j, j < k ∧ (s j).nx = i ∧ (s (j + 1)).nx = i + 1
  | 0, _, i, h => .inl h
  | k + 1, hk, i, h => by
    rcases (T.one hok (show k < c by omega) (by omega)).2.2.2.2 with q | q
    · rw [q.2] at h
      exact (T.live hok hc k (by omega) i h).imp id fun ⟨j, q1, q2⟩ => ⟨j, by omega, q2⟩
    · obtain ⟨q0, lv1, q1, q2⟩ := q
      rw [q1, List.mem_cons] at h
      rcases h with h | h
      · exact .inr ⟨k, by omega, h.symm, by rw [q0, h]⟩
      · exact (T.live hok hc k (by omega) i (q2 i h)).imp id fun ⟨j, q1, q2⟩ => ⟨j, by omega, q2⟩
/-- a stamp that has gone does not come back -/
theorem Trace.gone (T : Trace P pc ops c s dv) (hok : drawOkF fl ops c = true) (hc : c ≤ ops.size) (j i : Nat) (h : i ∉ (s j).lv) (hi : i < (s j).nx) : ∀ k, j ≤ k → k ≤ c → i ∉ (s k).lv := by
  intro k
  induction k with
  | zero => intro h1 _; obtain rfl : j = 0 := by omega
            exact h
  | succ k ih =>
    intro h1 h2
    by_cases e : j = k + 1
    · subst e; exact h
    · have h3 := ih (by omega) (by omega)
      have hn := T.nx hok hc j k (by omega) (by omega)
      rcases (T.one hok (show k < c by omega) (by omega)).2.2.2.2 with q | ⟨q0, lv1, q1, q2⟩
      · rw [q.2]; exact h3
      · rw [q1, List.mem_cons]
        rintro (q | q)
        · omega
        · exact h3 (q2 i q)
theorem Trace.lvlt (T : Trace P pc ops c s dv) (hok : drawOkF fl ops c = true) (hc : c ≤ ops.size) (h0 : ∀ i ∈ (s 0).lv, i < (s 0).nx) (k i : Nat) (hk : k ≤ c) (h : i ∈ (s k).lv) : i < (s k).nx := by
  have hn := T.nx hok hc 0 k (by omega) hk
  rcases T.live hok hc k hk i h with q | ⟨j, q1, q2, q3⟩
  · have := h0 i q; omega
  · have := T.nx hok hc (j + 1) k (by omega) hk; omega

def AL (s : Nat → St) (c : Nat) (listed : Array Bool) (i : Nat) : Prop := i < (s 0).bx.length ∨ ∃ j, j < c ∧ listed.getD j false = true ∧ (s j).bx.length = i ∧ (s (j + 1)).bx.length = i + 1
def SL (s : Nat → St) (c : Nat) (listed : Array Bool) (i : Nat) : Prop := ∃ j, j < c ∧ listed.getD j false = true ∧ (s j).nx = i ∧ (s (j + 1)).nx = i + 1
/-- a stamp that an operation has used up -/
def CL (s : Nat → St) (c : Nat) (listed : Array Bool) (i : Nat) : Prop := ∃ j, j < c ∧ listed.getD j false = true ∧ i ∈ (s j).lv ∧ i ∉ (s (j + 1)).lv
def LL (s : Nat → St) (c : Nat) (listed : Array Bool) (i : Nat) : Prop := (i ∈ (s 0).lv ∨ SL s c listed i) ∧ ¬ CL s c listed i
open Classical in
noncomputable def bxL (s : Nat → St) (c : Nat) (listed : Array Bool) (i : Nat) : Option (List D) := if AL s c listed i then (s c).bx[i]? else none

/-- one box has been written ahead of the text -/
def bxO (ov : Option (Nat × List D)) (f : Nat → Option (List D)) (i : Nat) : Option (List D) := match ov with
  | some x => if i = x.1 then some x.2 else f i
  | none => f i
structure PInv (P : Program) (base : Nat) (w0 : World) (ok0 : Gh) (ops : Array Oper) (c : Nat) (s : Nat → St) (dv : Nat → D) (ov : Option (Nat × List D)) (g0 : Gh) (a0 : Act) (w1 : World) (g : Gh) (listed : Array Bool) (a : Act) (w : World) : Prop where
  rw_ : RW P base w0 ok0 g (bxO ov (bxL s c listed)) (fun i => i < (s 0).nx ∨ SL s c listed i) (LL s c listed) w
  ext : Ext g0 w1 g w
  df : a.defers = a0.defers
  size : a.tmps.size = a0.tmps.size
  same : ∀ t, (∀ i, i < c → listed.getD i false = true → dstAt ops i ≠ some t) → a.tmps[t]? = a0.tmps[t]?
  got : ∀ i, i < c → listed.getD i false = true → ∀ t, dstAt ops i = some t → t < a.tmps.size → ∃ v, a.tmps[t]? = some v ∧ val w g (dv i) v
  mpv : ∀ x, ov = some x → (∃ b, g.β x.1 = some b) ∧ g.mp x.1 = false

theorem set_listed {listed : Array Bool} {j i : Nat} (hj : j < listed.size) : (listed.setIfInBounds j true).getD i false = true ↔ listed.getD i false = true ∨ i = j := by
  by_cases e : j = i
  · subst e
    simp [Array.getD_eq_getD_getElem?, hj]
  · rw [getD_set_ne false e]
    exact ⟨.inl, fun q => q.resolve_right (fun e' => e e'.symm)⟩

theorem want_slot {g : Gh} {a : Act} {w : World} {fr : List D} {o : Oper} (h : ∀ q want t, o.guard = some (q, want) → (ops[q]?).bind (·.dst) = some t → (fr[t]? = none ∧ a.tmps[t]? = none) ∨ ∃ d v, fr[t]? = some d ∧ a.tmps[t]? = some v ∧ val w g d v) :
    Region.wanted o (yielded ops a.tmps) = awant ops.toList fr o := by
  unfold Region.wanted awant
  cases hg : o.guard with
  | none => rfl
  | some x =>
    obtain ⟨j, want⟩ := x
    simp only [yielded, Array.getElem?_toList]
    cases hd : (ops[j]?).bind (·.dst) with
    | none => cases want <;> rfl
    | some t =>
      simp only [zbs]
      rcases h j want t hg hd with ⟨h1, h2⟩ | ⟨d, v, h1, h2, h3⟩
      · rw [h1, h2]; cases want <;> rfl
      · rw [h1, h2]
        by_cases hb : ∃ b, v = .bool b
        · obtain ⟨b, rfl⟩ := hb
          have := val_notBool h3 rfl
          subst this
          cases b <;> cases want <;> rfl
        · have hv : ∀ b, v ≠ .bool b := fun b e => hb ⟨b, e⟩
          have hd' : ∀ b, d ≠ .bool b := fun b e => by subst e; exact hv b (val_bool h3)
          cases v <;> first | exact absurd rfl (hv _) | skip
          all_goals (cases d <;> first | exact absurd rfl (hd' _) | (cases want <;> rfl))

theorem ops_vals {g : Gh} {a : Act} {w : World} {fr : List D} {o : Oper} (hok : opOk o = true) (h : ∀ t ∈ names o, val w g ((fr[t]?).getD .undef) (a.tmps.getD t Go.undef)) : ∀ x ∈ o.op.operands, val w g (ev fr x) (a.eval x) := by
  intro x hx
  cases x with
  | tmp t =>
    refine h t ?_
    unfold names
    rw [List.mem_filterMap]
    exact ⟨.tmp t, by simpa using hx, rfl⟩
  | const v =>
    unfold opOk at hok
    rw [zat, Array.all_eq_true_iff_forall_mem] at hok
    have h1 := hok.1 _ hx
    simp only at h1
    obtain ⟨d, hd⟩ := Option.isSome_iff_exists.1 h1
    simp only [ev, Act.eval, hd, zgd]
    refine val_of_R (ofValue_R hd) ?_
    unfold ofValue at hd
    split at hd <;> (try split at hd) <;> cases hd <;> rfl
  | global i =>
    unfold opOk at hok
    rw [zat, Array.all_eq_true_iff_forall_mem] at hok
    have h1 := hok.1 _ hx
    simp at h1
  | func f => exact val_of_R (.fn f [] [] rfl (fun d h => by cases h) (fun j h => absurd h (Nat.not_lt_zero _))) rfl
end

end Go.Proofs.Ytmglacjcefajlaa

/- A region that draws its order: every order. Over any program. -/
namespace Go.Proofs.Ytmglacjcefajlaa
open Go.RowKit

section
variable {fl : Array Oper → Nat → Oper → Bool} {P : Program} {base : Nat} {w0 : World} {ok0 : Gh} {pc : Nat → List D → Option D} {call : Nat → List D → St → Option (D × St)} {ops : Array Oper} {c : Nat} {s : Nat → St} {dv : Nat → D} {ov : Option (Nat × List D)} {g0 : Gh} {a0 : Act} {w1 : World}
  {ro : Option Nat} {n : Nat} {Q : Exit → Act → World → Prop}

theorem listed_of_before {listed : Array Bool} (hcl : Closed ops listed) {i j : Nat} {o : Oper} (ho : ops[j]? = some o) (hall : ∀ e ∈ o.after, Region.binds .any e = true → listed.getD e.on false = true) (h : before (masks ops) i j = true) : listed.getD i false = true :=
  (before_chain h).listed hcl o ho hall

/-- the memory behind an operation is that of the larger set -/
theorem PInv.next (_T : Trace P pc ops c s dv) (hok : drawOkF fl ops c = true) (hc : c ≤ ops.size) {g g1 : Gh} {listed : Array Bool} {a : Act} {w w' : World} (h : PInv P base w0 ok0 ops c s dv ov g0 a0 w1 g listed a w) {j : Nat} (hj : j < c) (hun : listed.getD j false = false) (hls : listed.size = ops.size)
    (hr : RW P base w0 ok0 g1 (bxO ov (bxL s c (listed.setIfInBounds j true))) (fun i => i < (s 0).nx ∨ SL s c (listed.setIfInBounds j true) i) (LL s c (listed.setIfInBounds j true)) w') (he : Ext g w g1 w') {v : Value} (hv : val w' g1 (dv j) v) :
    PInv P base w0 ok0 ops c s dv ov g0 a0 w1 g1 (listed.setIfInBounds j true) (a.put (dstAt ops j) v) w' := by
  have hjl : j < listed.size := by omega
  refine ⟨hr, h.ext.trans he, ?_, ?_, fun t ht => ?_, fun i hi hl t hd ht => ?_, fun x hx => ?_⟩
  rotate_right
  · obtain ⟨⟨b, q1⟩, q2⟩ := h.mpv x hx
    exact ⟨⟨b, he.β _ _ q1⟩, (he.mp _ _ q1).trans q2⟩
  · rw [← h.df]; cases dstAt ops j <;> rfl
  · rw [← h.size]; cases dstAt ops j <;> simp [Act.put]
  · have h1 := ht j hj ((set_listed hjl).2 (.inr rfl))
    have h2 := h.same t (fun i hi hl => ht i hi ((set_listed hjl).2 (.inl hl)))
    rw [← h2]
    cases hd : dstAt ops j with
    | none => rfl
    | some t' =>
      rw [hd] at h1
      simp only [Act.put]
      rw [Array.getElem?_setIfInBounds_ne (fun e => h1 (by rw [e]))]
  · by_cases e : i = j
    · subst e
      have ht' : t < a.tmps.size := by
        rw [hd] at ht
        simpa [Act.put] using ht
      refine ⟨v, ?_, hv⟩
      rw [hd]
      simp only [Act.put]
      rw [Array.getElem?_setIfInBounds]
      simp [ht']
    · have hl' := ((set_listed hjl).1 hl).resolve_right e
      have hne : dstAt ops j ≠ some t := fun q => e (dst_apart hok hi hj hc hd q)
      have hsz : (a.put (dstAt ops j) v).tmps.size = a.tmps.size := by cases dstAt ops j <;> simp [Act.put]
      obtain ⟨u, h1, h2⟩ := h.got i hi hl' t hd (by rw [← hsz]; exact ht)
      refine ⟨u, ?_, h2.ext he⟩
      rw [← h1]
      cases hq : dstAt ops j with
      | none => rfl
      | some t' =>
        rw [hq] at hne
        simp only [Act.put]
        rw [Array.getElem?_setIfInBounds_ne (fun e => hne (by rw [e]))]

theorem bxL_same (_T : Trace P pc ops c s dv) (_hok : drawOkF fl ops c = true) (hc : c ≤ ops.size) {listed : Array Bool} {j : Nat} (hj : j < c) (hls : listed.size = ops.size) (hb : (s (j + 1)).bx.length = (s j).bx.length) : ∀ i, bxL s c (listed.setIfInBounds j true) i = bxL s c listed i := by
  intro i
  have : AL s c (listed.setIfInBounds j true) i ↔ AL s c listed i := by
    unfold AL
    refine or_congr Iff.rfl ⟨?_, ?_⟩
    · rintro ⟨k, h1, h2, h3, h4⟩
      rcases (set_listed (by omega)).1 h2 with q | q
      · exact ⟨k, h1, q, h3, h4⟩
      · subst q; omega
    · rintro ⟨k, h1, h2, h3, h4⟩
      exact ⟨k, h1, (set_listed (by omega)).2 (.inl h2), h3, h4⟩
  unfold bxL
  by_cases h : AL s c listed i
  · rw [if_pos h, if_pos (this.2 h)]
  · rw [if_neg h, if_neg (fun q => h (this.1 q))]
theorem bxL_new (T : Trace P pc ops c s dv) (hok : drawOkF fl ops c = true) (hc : c ≤ ops.size) {listed : Array Bool} {j : Nat} {cs : List D} (hj : j < c) (hls : listed.size = ops.size) (hb : (s (j + 1)).bx = (s j).bx ++ [cs]) : ∀ i, bxL s c (listed.setIfInBounds j true) i = if i = (s j).bx.length then some cs else bxL s c listed i := by
  intro i
  have hl : (s (j + 1)).bx.length = (s j).bx.length + 1 := by rw [hb]; simp
  by_cases e : i = (s j).bx.length
  · rw [if_pos e]
    have : AL s c (listed.setIfInBounds j true) i := .inr ⟨j, hj, (set_listed (by omega)).2 (.inr rfl), e.symm, by omega⟩
    unfold bxL
    rw [if_pos this, (T.bx hok hc (j + 1) c (by omega) (Nat.le_refl _)).2 i (by omega), hb, e]
    simp
  · rw [if_neg e]
    have : AL s c (listed.setIfInBounds j true) i ↔ AL s c listed i := by
      unfold AL
      refine or_congr Iff.rfl ⟨?_, ?_⟩
      · rintro ⟨k, h1, h2, h3, h4⟩
        rcases (set_listed (by omega)).1 h2 with q | q
        · exact ⟨k, h1, q, h3, h4⟩
        · subst q; omega
      · rintro ⟨k, h1, h2, h3, h4⟩
        exact ⟨k, h1, (set_listed (by omega)).2 (.inl h2), h3, h4⟩
    unfold bxL
    by_cases h : AL s c listed i
    · rw [if_pos h, if_pos (this.2 h)]
    · rw [if_neg h, if_neg (fun q => h (this.1 q))]
theorem SL_up {listed : Array Bool} {j : Nat} (hls : j < listed.size) {i : Nat} (h : SL s c listed i) : SL s c (listed.setIfInBounds j true) i := by
  obtain ⟨k, h1, h2, h3⟩ := h
  exact ⟨k, h1, (set_listed hls).2 (.inl h2), h3⟩
theorem SL_down {listed : Array Bool} {j : Nat} (hls : j < listed.size) {i : Nat} (h : SL s c (listed.setIfInBounds j true) i) : SL s c listed i ∨ ((s j).nx = i ∧ (s (j + 1)).nx = i + 1) := by
  obtain ⟨k, h1, h2, h3⟩ := h
  rcases (set_listed hls).1 h2 with q | q
  · exact .inl ⟨k, h1, q, h3⟩
  · subst q; exact .inr h3
theorem CL_up {listed : Array Bool} {j : Nat} (hls : j < listed.size) {i : Nat} (h : CL s c listed i) : CL s c (listed.setIfInBounds j true) i := by
  obtain ⟨k, h1, h2, h3⟩ := h
  exact ⟨k, h1, (set_listed hls).2 (.inl h2), h3⟩
theorem LL_down {listed : Array Bool} {j : Nat} (hls : j < listed.size) {i : Nat} (hn : (s (j + 1)).nx = (s j).nx) (h : LL s c (listed.setIfInBounds j true) i) : LL s c listed i :=
  ⟨h.1.imp id (fun q => (SL_down hls q).resolve_right (fun q => by omega)), fun q => h.2 (CL_up hls q)⟩

/-- the operands of an operation that comes up hold what they hold in the text's order -/
theorem PInv.vals (T : Trace P pc ops c s dv) (hok : drawOkF fl ops c = true) (hc : c ≤ ops.size) (hrel : Rel P base w0 ok0 g0 (s 0) a0 w1) {g : Gh} {listed : Array Bool} {a : Act} {w : World} (h : PInv P base w0 ok0 ops c s dv ov g0 a0 w1 g listed a w) (hcl : Closed ops listed) {j : Nat} {o : Oper} (hj : j < c)
    (hun : listed.getD j false = false) (ho : ops[j]? = some o) (hall : ∀ e ∈ o.after, Region.binds .any e = true → listed.getD e.on false = true) :
    (∀ x ∈ o.op.operands, val w g (ev (s j).fr x) (a.eval x)) ∧ Region.wanted o (yielded ops a.tmps) = awant ops.toList (s j).fr o := by
  obtain ⟨k1, _, _, k4⟩ := drawOk_at hok ho
  obtain ⟨_, k5, k6⟩ := k4 hj
  have hsz : (s 0).fr.length = a.tmps.size := by rw [h.size]; exact hrel.len
  have hlen : (s j).fr.length = a.tmps.size := by rw [T.len hok hc j (by omega)]; exact hsz
  -- a slot that an earlier operation wrote
  have hwrote : ∀ i t, i < j → dstAt ops i = some t → listed.getD i false = true → ((s j).fr[t]? = none ∧ a.tmps[t]? = none) ∨ ∃ d v, (s j).fr[t]? = some d ∧ a.tmps[t]? = some v ∧ val w g d v := by
    intro i t hi hd hl
    by_cases ht : t < a.tmps.size
    · obtain ⟨v, h1, h2⟩ := h.got i (by omega) hl t hd ht
      exact .inr ⟨dv i, v, T.new hok hc j (by omega) i t hi hd (by rw [hsz]; exact ht), h1, h2⟩
    · exact .inl ⟨List.getElem?_eq_none (by rw [hlen]; exact Nat.le_of_not_lt ht), Array.getElem?_eq_none (Nat.le_of_not_lt ht)⟩
  have hslot : ∀ t ∈ names o, ((s j).fr[t]? = none ∧ a.tmps[t]? = none) ∨ ∃ d v, (s j).fr[t]? = some d ∧ a.tmps[t]? = some v ∧ val w g d v := by
    intro t ht
    by_cases hw : ∃ i, i < j ∧ dstAt ops i = some t
    · obtain ⟨i, hi, hd⟩ := hw
      have oi : ops[i]? = some ops[i] := Array.getElem?_eq_getElem (by omega)
      have di : ops[i].dst = some t := by simpa [dstAt, oi] using hd
      rcases (k6 i _ t (by omega) (by omega) oi di (.inl ht)).1 with q | q
      · exact hwrote i t hi hd (listed_of_before hcl ho hall q.2)
      · omega
    · have hno : ∀ i, i < j → dstAt ops i ≠ some t := fun i hi hd => hw ⟨i, hi, hd⟩
      have hsame := h.same t (fun i hi hl hd => by
        have hij : i ≠ j := fun e => by rw [e, hun] at hl; cases hl
        have oi : ops[i]? = some ops[i] := Array.getElem?_eq_getElem (by omega)
        have di : ops[i].dst = some t := by simpa [dstAt, oi] using hd
        rcases (k6 i _ t hi hij oi di (.inl ht)).1 with q | q
        · exact hno i q.1 hd
        · have := listed_of_before hcl oi (hcl i _ oi hl) q.2
          rw [hun] at this; cases this)
      rw [T.old hok hc j (by omega) t hno, hsame]
      cases hf : (s 0).fr[t]? with
      | none => exact .inl ⟨rfl, by rw [Array.getElem?_eq_none_iff, ← hrel.len]; exact List.getElem?_eq_none_iff.1 hf⟩
      | some d =>
        obtain ⟨v, h1, h2⟩ := hrel.fr t d hf
        exact .inr ⟨d, v, rfl, h1, h2.ext h.ext⟩
  refine ⟨ops_vals k1 (fun t ht => ?_), want_slot (g := g) (w := w) (fun q want t hg hd => ?_)⟩
  · rcases hslot t ht with ⟨h1, h2⟩ | ⟨d, v, h1, h2, h3⟩
    · rw [h1, Array.getD_eq_getD_getElem?, h2]; rfl
    · rw [h1, Array.getD_eq_getD_getElem?, h2]; exact h3
  · obtain ⟨q1, q2, _⟩ := k5 q want hg
    exact hwrote q t q1 hd (listed_of_before hcl ho hall q2)

theorem bxO_congr {ov : Option (Nat × List D)} {f f' : Nat → Option (List D)} (h : ∀ i, f i = f' i) : ∀ i, bxO ov f i = bxO ov f' i := by
  intro i; unfold bxO; cases ov <;> simp [h]
theorem bxO_new {ov : Option (Nat × List D)} {f f' : Nat → Option (List D)} {n : Nat} {cs : List D} (h : ∀ i, f i = if i = n then some cs else f' i) (hn : ∀ x, ov = some x → n ≠ x.1) : ∀ i, bxO ov f i = if i = n then some cs else bxO ov f' i := by
  intro i
  unfold bxO
  cases ov with
  | none => exact h i
  | some x =>
    simp only
    by_cases e : i = x.1
    · rw [if_pos e, if_pos e, if_neg (fun e' => hn x rfl (by omega))]
    · rw [if_neg e, if_neg e]; exact h i
/-- what is asked where a box has been written ahead of the text -/
structure Ahead (s : Nat → St) (c : Nat) (listed : Array Bool) (x : Nat × List D) : Prop where
  al : AL s c listed x.1
theorem PInv.step (hpc : PCallOk P pc) (T : Trace P pc ops c s dv) (hok : drawOkF fl ops c = true) (hc : c ≤ ops.size) (hrel : Rel P base w0 ok0 g0 (s 0) a0 w1) {g : Gh} {listed : Array Bool} {a : Act} {w : World} (h : PInv P base w0 ok0 ops c s dv ov g0 a0 w1 g listed a w) (hcl : Closed ops listed) (hls : listed.size = ops.size) {j : Nat} {o : Oper} (hj : j < c)
    (hun : listed.getD j false = false) (ho : ops[j]? = some o) (hall : ∀ e ∈ o.after, Region.binds .any e = true → listed.getD e.on false = true) (hov : ∀ x, ov = some x → Ahead s c listed x ∧ ∀ i, (∃ t y off, o.op = .load t y ∧ ev (s j).fr y = .ptr i off) → i ≠ x.1) {K : Act → World → Prop}
    (hK : ∀ a' w' g', PInv P base w0 ok0 ops c s dv ov g0 a0 w1 g' (listed.setIfInBounds j true) a' w' → K a' w') :
    if Region.wanted o (yielded ops a.tmps) then o.wpIn (fence ro) n P a w K Q else (∀ f, o.about P w a.eval = some f → (fence ro).fn f) ∧ K (a.put o.dst undef) w := by
  obtain ⟨hv, hwant⟩ := h.vals T hok hc hrel hcl hj hun ho hall
  obtain ⟨k1, _, _, k4⟩ := drawOk_at hok ho
  obtain ⟨hben, _, _⟩ := k4 hj
  obtain ⟨σ', hst, hnext⟩ := T.step j o hj ho
  have hjl : j < listed.size := by omega
  have hdst : dstAt ops j = o.dst := by simp [dstAt, ho]
  have hone := T.one hok hj (by omega)
  obtain ⟨p1, p2, p3, _⟩ := put_bx σ' o.dst (dv j)
  have eb : (s (j + 1)).bx = σ'.bx := by rw [hnext, p1]
  have en : (s (j + 1)).nx = σ'.nx := by rw [hnext, p2]
  rw [hwant]
  split
  · rename_i hw
    rw [if_pos hw] at hst
    -- the box that the operation lays is not there yet
    have hnew : ∀ cs, σ' = { s j with bx := (s j).bx ++ [cs] } → ¬ AL s c listed (s j).bx.length := by
      rintro cs q (q' | ⟨k, h1, h2, h3, h4⟩)
      · have := (T.bx hok hc 0 j (by omega) (by omega)).1; omega
      · have hkj : k ≠ j := fun e => by rw [e, hun] at h2; cases h2
        rcases Nat.lt_or_ge k j with hlt | hge
        · have := (T.bx hok hc (k + 1) j (by omega) (by omega)).1; omega
        · have := (T.bx hok hc (j + 1) k (by omega) (by omega)).1
          rw [eb, q] at this; simp at this; omega
    have hshape := aeff_shape hben hst
    obtain ⟨_, hout⟩ := pre_eff (a := a) (w := w) (g := g) hpc h.rw_ hben hv (fun i cs b hsee q1 q2 => by
        have hd := (h.rw_.dom i b q2).1
        have hlt := (List.getElem?_eq_some_iff.1 q1).1
        have hno : ∀ x, ov = some x → i ≠ x.1 := by
          intro x hx e
          obtain ⟨ha, hlo⟩ := hov x hx
          rcases hsee with hs | ⟨y, hy, hy2⟩
          · exact hlo i hs e
          · have hvy := hv y hy
            rw [hy2] at hvy
            obtain ⟨cs', r1, r2⟩ := hvy
            cases r1 with
            | mref _ _ _ hm => rw [e, (h.mpv x hx).2] at hm; cases hm
        have hbo : bxO ov (bxL s c listed) i = bxL s c listed i := by
          unfold bxO
          cases hx : ov with
          | none => rfl
          | some x => simp only; rw [if_neg (hno x hx)]
        rw [hbo] at hd ⊢
        unfold bxL at hd ⊢
        split at hd
        · rename_i hal
          rw [if_pos hal, (T.bx hok hc j c (by omega) (Nat.le_refl _)).2 i hlt]; exact q1
        · cases hd) (fun q => by
        have hna : ¬ AL s c listed (s j).bx.length := by
          rcases hshape with e | ⟨cs, e⟩ | ⟨lv1, e, _⟩
          · rw [e] at q; omega
          · exact hnew cs e
          · rw [e] at q; simp at q
        unfold bxO
        cases hx : ov with
        | none => simp only; unfold bxL; rw [if_neg hna]
        | some x => simp only; rw [if_neg (fun e => hna (by rw [e]; exact (hov x hx).1.al))]; unfold bxL; rw [if_neg hna]) (fun q q' => by
        rcases q' with q' | ⟨k, h1, h2, h3, h4⟩
        · have := T.nx hok hc 0 j (by omega) (by omega); omega
        · have hkj : k ≠ j := fun e => by rw [e, hun] at h2; cases h2
          rcases Nat.lt_or_ge k j with hlt | hge
          · have := T.nx hok hc (k + 1) j (by omega) (by omega); omega
          · have := T.nx hok hc (j + 1) k (by omega) (by omega)
            rw [en] at this; omega) (fun st q1 q2 q3 => by
        have h0 : ∀ i ∈ (s 0).lv, i < (s 0).nx := fun i hi => by
          obtain ⟨_, _, _, _, r1, _⟩ := RW.row hrel.rs i hi
          exact RW.fresh hrel.rs i _ r1
        have hlt := T.lvlt hok hc h0 j st (by omega) q1
        have q2' : st ∉ (s (j + 1)).lv := by rw [hnext, p3]; exact q2
        refine ⟨?_, ?_⟩
        · rcases q3 with q3 | q3
          · rcases T.live hok hc j (by omega) st q1 with q | ⟨k, r1, r2, r3⟩
            · exact .inl q
            · have := T.nx hok hc 0 k (by omega) (by omega); omega
          · exact .inr q3
        · rintro ⟨k, r1, r2, r3, r4⟩
          have hkj : k ≠ j := fun e => by rw [e, hun] at r2; cases r2
          rcases Nat.lt_or_ge k j with hl | hge
          · have hl2 := T.lvlt hok hc h0 k st (by omega) r3
            have hn2 := T.nx hok hc k (k + 1) (by omega) (by omega)
            exact T.gone hok hc (k + 1) st r4 (by omega) j (by omega) (by omega) q1
          · have hn2 := T.nx hok hc j (j + 1) (by omega) (by omega)
            exact T.gone hok hc (j + 1) st q2' (by omega) k (by omega) (by omega) r3) hst
    -- whatever the operation made, the larger set's memory
    have done : ∀ (bx' : Nat → Option (List D)) (K' lv' : Nat → Prop), (∀ g1 w', RW P base w0 ok0 g1 bx' K' lv' w' → RW P base w0 ok0 g1 (bxO ov (bxL s c (listed.setIfInBounds j true))) (fun i => i < (s 0).nx ∨ SL s c (listed.setIfInBounds j true) i) (LL s c (listed.setIfInBounds j true)) w') →
        PreOut P base w0 ok0 g a w o (dv j) bx' K' lv' → o.wpIn (fence ro) n P a w K Q := by
      intro bx' K' lv' hconv hout
      refine ⟨fun f _ => fence_fn ro f, ?_⟩
      have hnd : ∀ c, o.op ≠ .defer c := fun c e => by
        unfold opOk at k1
        rw [zat, e] at k1
        exact absurd k1.2 (by simp)
      rw [Oper.semAt_plain _ _ _ hnd]
      rcases hout with ⟨v, w2, g1, h1, h2, h3, h4⟩ | ⟨k, vs, h1, h2⟩
      · rw [h1]
        have := h.next T hok hc hj hun hls (hconv g1 w2 h2) h3 h4
        rw [hdst] at this
        exact hK _ _ g1 this
      · rw [h1]
        refine ⟨fun e => absurd e (by rw [fence_depth]; simp), (fence_calls h2).mono ?_⟩
        rintro e w2 ⟨v, g1, rfl, q1, q2, q3⟩
        have := h.next T hok hc hj hun hls (hconv g1 w2 q1) q2 q3
        rw [hdst] at this
        exact hK _ _ g1 this
    rcases hout with ⟨rfl, hout⟩ | ⟨cs, rfl, hout⟩ | ⟨lv1, rfl, hl1, hout⟩
    · refine done _ _ _ (fun g1 w' q => ?_) hout
      refine ((q.same_bx (bxO_congr (bxL_same T hok hc hj hls (by rw [eb])))).more (fun i q => q.imp id (SL_up hjl))).drop (fun i q => LL_down hjl en q)
    · refine done _ _ _ (fun g1 w' q => ?_) hout
      refine ((q.same_bx (bxO_new (bxL_new T hok hc hj hls (by rw [eb])) (fun x hx e => hnew cs rfl (e ▸ (hov x hx).1.al)))).more (fun i q => q.imp id (SL_up hjl))).drop (fun i q => LL_down hjl en q)
    · refine done _ _ _ (fun g1 w' q => ?_) hout
      refine ((q.same_bx (bxO_congr (bxL_same T hok hc hj hls (by rw [eb])))).more (fun i q => ?_)).drop (fun i q => ?_)
      · rcases q with q | q
        · exact q.imp id (SL_up hjl)
        · exact .inr ⟨j, hj, (set_listed hjl).2 (.inr rfl), q.symm, by rw [en, q]⟩
      · by_cases hi : i = (s j).nx
        · exact .inr hi
        · refine .inl ⟨⟨q.1.imp id (fun q => (SL_down hjl q).resolve_right (fun q => hi q.1.symm)), fun q' => q.2 (CL_up hjl q')⟩, ?_⟩
          by_cases hm : i ∈ lv1
          · exact .inl hm
          · refine .inr (fun hin => q.2 ⟨j, hj, (set_listed hjl).2 (.inr rfl), hin, ?_⟩)
            rw [hnext, p3]
            simp only [List.mem_cons, not_or]
            exact ⟨hi, hm⟩
  · rename_i hw
    rw [if_neg hw] at hst
    obtain ⟨e1, rfl⟩ := hst
    refine ⟨fun f _ => fence_fn ro f, ?_⟩
    have hr2 : RW P base w0 ok0 g (bxO ov (bxL s c (listed.setIfInBounds j true))) (fun i => i < (s 0).nx ∨ SL s c (listed.setIfInBounds j true) i) (LL s c (listed.setIfInBounds j true)) w :=
      ((h.rw_.same_bx (bxO_congr (bxL_same T hok hc hj hls (by rw [eb])))).more (fun i q => q.imp id (SL_up hjl))).drop (fun i q => LL_down hjl en q)
    have := h.next T hok hc hj hun hls hr2 (Ext.refl _ _) (v := Go.undef) (by rw [e1]; rfl)
    rw [hdst] at this
    exact hK _ _ g this
end

end Go.Proofs.Ytmglacjcefajlaa

/- A region that draws its order: the theorem. Over any program. -/
namespace Go.Proofs.Ytmglacjcefajlaa
open Go.RowKit

section
variable {fl : Array Oper → Nat → Oper → Bool} {P : Program} {base : Nat} {w0 : World} {ok0 : Gh} {pc : Nat → List D → Option D} {call : Nat → List D → St → Option (D × St)} {ops : Array Oper} {c : Nat} {g0 : Gh} {a0 : Act} {w1 : World} {σ σc σ' : St}
  {ro : Option Nat} {n : Nat} {Q : Exit → Act → World → Prop}

theorem Rel.drew {g : Gh} {a : Act} {w : World} (h : Rel P base w0 ok0 g σ a w) : Rel P base w0 ok0 g σ a w.drew ∧ Ext g w g w.drew := by
  obtain ⟨h1, h2⟩ := RW.grow h.rs (w' := w.drew) (Below.refl _ w).drew (ok' := g.ok) (fun _ _ q => q) (fun _ _ q => .inl q)
  exact ⟨⟨h1, h.len, fun t d q => let ⟨v, q1, q2⟩ := h.fr t d q; ⟨v, q1, q2.ext h2⟩⟩, h2⟩

theorem all_listed' {listed : Array Bool} (hsz : listed.size = ops.size) (hb : ∀ j o, ops[j]? = some o → ∀ e ∈ o.after, Region.binds .any e = true → e.on < j) (hr : Region.ready .any ops listed = []) : ∀ j, j < ops.size → listed.getD j false = true := by
  intro j
  induction j using Nat.strongRecOn with
  | ind j ih =>
    intro hj
    cases hx : listed.getD j false with
    | true => rfl
    | false =>
      exfalso
      have hlj : j < listed.size := by omega
      have h0 : listed.getD j true = false := by
        simp only [Array.getD_eq_getD_getElem?, Array.getElem?_eq_getElem hlj, zgd] at hx ⊢
        exact hx
      have hm : j ∈ Region.ready .any ops listed := mem_ready.2 ⟨h0, ops[j], Array.getElem?_eq_getElem hj, fun e he hbd => ih e.on (hb j _ (Array.getElem?_eq_getElem hj) e he hbd) (by have := hb j _ (Array.getElem?_eq_getElem hj) e he hbd; omega)⟩
      rw [hr] at hm
      cases hm

def ovSt (ov : Option (Nat × List D)) (σ : St) : St := match ov with
  | some x => { σ with bx := σ.bx.set x.1 x.2 }
  | none => σ
theorem PInv.rel {s : Nat → St} {dv : Nat → D} {ov : Option (Nat × List D)} (T : Trace P pc ops c s dv) (hok : drawOkF fl ops c = true) (hc : c ≤ ops.size) (hrel : Rel P base w0 ok0 g0 (s 0) a0 w1) {g : Gh} {listed : Array Bool} {a : Act} {w : World} (h : PInv P base w0 ok0 ops c s dv ov g0 a0 w1 g listed a w) (hall : ∀ i, i < c → listed.getD i false = true)
    (hov : ∀ x, ov = some x → x.1 < (s c).bx.length) : Rel P base w0 ok0 g (ovSt ov (s c)) a w := by
  have hsz : (s c).fr.length = a.tmps.size := by rw [T.len hok hc c (Nat.le_refl _), h.size]; exact hrel.len
  have efr : (ovSt ov (s c)).fr = (s c).fr := by cases ov <;> rfl
  have enx : (ovSt ov (s c)).nx = (s c).nx := by cases ov <;> rfl
  have elv : (ovSt ov (s c)).lv = (s c).lv := by cases ov <;> rfl
  refine ⟨?_, by rw [efr]; exact hsz, fun t d q => ?_⟩
  · unfold RS
    rw [enx, elv]
    refine ((h.rw_.same_bx (bx' := fun i => (ovSt ov (s c)).bx[i]?) (fun i => ?_)).more (K' := fun i => i < (s c).nx) (fun i q => ?_)).drop (fun i q => ?_)
    · have hb : (s c).bx[i]? = bxL s c listed i := by
        unfold bxL
        by_cases hal : AL s c listed i
        · rw [if_pos hal]
        · rw [if_neg hal]
          refine List.getElem?_eq_none (Nat.le_of_not_lt fun hlt => hal ?_)
          rcases Nat.lt_or_ge i (s 0).bx.length with q | q
          · exact .inl q
          · obtain ⟨j, q1, q2, q3⟩ := T.made hok hc c (Nat.le_refl _) i q hlt
            exact .inr ⟨j, q1, hall j q1, q2, q3⟩
      cases ov with
      | none => exact hb
      | some x =>
        simp only [ovSt, bxO]
        by_cases e : i = x.1
        · rw [if_pos e, e, List.getElem?_set_self (hov x rfl)]
        · rw [if_neg e, List.getElem?_set_ne (fun e' => e e'.symm)]; exact hb
    · rcases q with q | ⟨j, q1, q2, q3, q4⟩
      · have := T.nx hok hc 0 c (by omega) (Nat.le_refl _); omega
      · have := T.nx hok hc (j + 1) c (by omega) (Nat.le_refl _); omega
    · refine ⟨?_, ?_⟩
      · rcases T.live hok hc c (Nat.le_refl _) i q with q | ⟨j, q1, q2, q3⟩
        · exact .inl q
        · exact .inr ⟨j, q1, hall j q1, q2, q3⟩
      · rintro ⟨k, r1, r2, r3, r4⟩
        have h0 : ∀ i ∈ (s 0).lv, i < (s 0).nx := fun i hi => by
          obtain ⟨_, _, _, _, r1, _⟩ := RW.row hrel.rs i hi
          exact RW.fresh hrel.rs i _ r1
        have hl2 := T.lvlt hok hc h0 k i (by omega) r3
        have hn2 := T.nx hok hc k (k + 1) (by omega) (by omega)
        exact T.gone hok hc (k + 1) i r4 (by omega) c (by omega) (Nat.le_refl _) q
  · rw [efr] at q
    by_cases hw : ∃ i, i < c ∧ dstAt ops i = some t
    · obtain ⟨i, hi, hd⟩ := hw
      have ht : t < (s c).fr.length := (List.getElem?_eq_some_iff.1 q).1
      rw [T.new hok hc c (Nat.le_refl _) i t hi hd (by rw [← T.len hok hc c (Nat.le_refl _)]; exact ht)] at q
      cases q
      exact h.got i hi (hall i hi) t hd (by rw [← hsz]; exact ht)
    · have hno : ∀ i, i < c → dstAt ops i ≠ some t := fun i hi hd => hw ⟨i, hi, hd⟩
      rw [T.old hok hc c (Nat.le_refl _) t hno] at q
      obtain ⟨v, q1, q2⟩ := hrel.fr t d q
      exact ⟨v, by rw [h.same t (fun i hi _ => hno i hi)]; exact q1, q2.ext h.ext⟩

/-- an address that comes from outside of the region leads to no box of the region's -/
theorem root_lt {s : Nat → St} {dv : Nat → D} (T : Trace P pc ops c s dv) (hok : drawOkF fl ops c = true) (hc : c ≤ ops.size) (hrel : Rel P base w0 ok0 g0 (s 0) a0 w1) : ∀ (n : Nat) (x : Operand), rootO ops c n x = true → ∀ (j : Nat), j ≤ c → ∀ (i off : Nat), ev (s j).fr x = .ptr i off → i < (s 0).bx.length
  | 0, x, h => by cases x <;> cases h
  | n + 1, .const v, _ => by
    intro j _ i off e
    simp only [ev] at e
    exfalso
    cases hv : ofValue v with
    | none => rw [hv] at e; cases e
    | some d =>
      rw [hv] at e
      simp only [zgd] at e
      subst e
      unfold ofValue at hv
      split at hv <;> (try split at hv) <;> cases hv
  | n + 1, .func f, _ => by intro j _ i off e; simp [ev] at e
  | n + 1, .global f, h => by cases h
  | n + 1, .tmp t, h => by
    intro j hj i off e
    have h0 : ∀ i off, ev (s 0).fr (.tmp t) = .ptr i off → i < (s 0).bx.length := by
      intro i off e
      simp only [ev] at e
      cases hf : (s 0).fr[t]? with
      | none => rw [hf] at e; cases e
      | some d =>
        rw [hf] at e
        simp only [zgd] at e
        subst e
        obtain ⟨v, q1, q2⟩ := hrel.fr t _ hf
        obtain ⟨b, q3, _⟩ := val_ptr q2
        have := (RW.dom hrel.rs i b q3.1).1
        obtain ⟨cs, hcs⟩ := Option.isSome_iff_exists.1 this
        exact (List.getElem?_eq_some_iff.1 hcs).1
    simp only [rootO] at h
    by_cases hw : ∃ k, k < j ∧ dstAt ops k = some t
    · obtain ⟨k, hk, hd⟩ := hw
      have ok : ops[k]? = some ops[k] := Array.getElem?_eq_getElem (by omega)
      have dk : ops[k].dst = some t := by simpa [dstAt, ok] using hd
      have hfind : (ops.toList.take c).find? (fun o => o.dst == some t) = some ops[k] := by
        cases hf : (ops.toList.take c).find? (fun o => o.dst == some t) with
        | none =>
          exfalso
          have := List.find?_eq_none.1 hf ops[k] (by
            refine List.mem_of_getElem? (i := k) ?_
            rw [List.getElem?_take, if_pos (by omega)]; simp)
          simp [dk] at this
        | some o' =>
          have h1 := List.find?_some hf
          have h2 := List.mem_of_find?_eq_some hf
          obtain ⟨m, hm, hme⟩ := List.getElem_of_mem h2
          have hmc : m < c := by simp at hm; omega
          have om : ops[m]? = some o' := by
            rw [List.getElem_take] at hme
            rw [Array.getElem?_eq_getElem (by simp at hm; omega)]
            simpa using hme
          have hkm : k = m := dst_apart hok (by omega) hmc hc hd (by simp only [dstAt, om, zbs]; simpa using h1)
          subst hkm
          rw [ok] at om
          exact om.symm
      rw [hfind] at h
      have hst : (s j).fr[t]? = some (dv k) ∨ (s j).fr[t]? = none := by
        by_cases ht : t < (s 0).fr.length
        · exact .inl (T.new hok hc j hj k t hk hd ht)
        · exact .inr (List.getElem?_eq_none (by rw [T.len hok hc j hj]; exact Nat.le_of_not_lt ht))
      have e' : dv k = .ptr i off := by
        simp only [ev] at e
        rcases hst with q | q <;> rw [q] at e
        · exact e
        · cases e
      obtain ⟨σ', hs1, _⟩ := T.step k ops[k] (by omega) ok
      split at hs1
      · simp only at h
        split at h
        · rename_i ty y f hop
          simp only [aeff, hop, aop] at hs1
          rw [Option.map_eq_some_iff] at hs1
          obtain ⟨d, hs1, hs2⟩ := hs1
          cases hs2
          rw [e'] at hs1
          split at hs1
          · cases hs1
          · split at hs1
            · cases hs1
            · split at hs1
              · cases hs1
              · split at hs1
                · rename_i i' o' hy
                  cases hs1
                  exact root_lt T hok hc hrel n y h k (by omega) _ _ hy
                · split at hs1
                  · split at hs1
                    · cases hs1
                    · split at hs1 <;> cases hs1
                  · cases hs1
                · cases hs1
        · rename_i y hop
          simp only [aeff, hop, aop] at hs1
          rw [Option.map_eq_some_iff] at hs1
          obtain ⟨d, hs1, hs2⟩ := hs1
          cases hs2
          rw [e'] at hs1
          split at hs1
          · rename_i i' o' hy
            cases hs1
            exact root_lt T hok hc hrel n y h k (by omega) _ _ hy
          · cases hs1
          · cases hs1
        · rename_i y hop
          simp only [aeff, hop, aop] at hs1
          rw [Option.map_eq_some_iff] at hs1
          obtain ⟨d, hs1, hs2⟩ := hs1
          cases hs2
          rw [e'] at hs1
          exact root_lt T hok hc hrel n y h k (by omega) i off (Option.some.inj hs1)
        · rename_i ty y z hop
          simp only [aeff, hop, aop] at hs1
          rw [Option.map_eq_some_iff] at hs1
          obtain ⟨d, hs1, hs2⟩ := hs1
          cases hs2
          rw [e'] at hs1
          exfalso
          split at hs1
          · split at hs1
            · split at hs1
              · split at hs1
                · rw [Option.map_eq_some_iff] at hs1
                  obtain ⟨_, _, q⟩ := hs1; cases q
                · cases hs1
              · cases hs1
            · split at hs1
              · split at hs1
                · cases hs1
                · cases hs1
              · cases hs1
            · cases hs1
          · cases hs1
        · cases h
      · rw [hs1.1] at e'; cases e'
    · have hold := T.old hok hc j hj t (fun k hk hd => hw ⟨k, hk, hd⟩)
      refine h0 i off ?_
      simp only [ev] at e ⊢
      rw [← hold]; exact e

theorem floatOk_at {o : Oper} (h : floatOk ops c o = true) : ∃ ty t x, o.op = .store ty (.tmp t) x ∧ o.guard = none ∧ o.dst = none ∧ (∃ m om, m < c ∧ ops[m]? = some om ∧ om.dst = some t ∧ om.guard = none ∧ isAlloc om.op = true ∧ before (masks ops) m c = true) ∧
    ∀ k ok, k < c → ops[k]? = some ok → ((∀ t', ok.dst = some t' → t' ∈ names o → before (masks ops) k c = true) ∧ (before (masks ops) k c = true ∨ rootOk ops c ok = true)) := by
  unfold floatOk at h
  split at h
  · rename_i ty t x hop
    simp only [zat] at h
    obtain ⟨⟨⟨h1, h2⟩, h3⟩, h4⟩ := h
    rw [List.any_eq_true] at h3
    rw [List.all_eq_true] at h4
    refine ⟨ty, t, x, hop, by simpa using h1, by simpa using h2, ?_, fun k ok hk hok => ?_⟩
    · obtain ⟨m, hm, h3⟩ := h3
      split at h3
      · rename_i om hom
        simp only [zat] at h3
        exact ⟨m, om, List.mem_range.1 hm, hom, by simpa using h3.1.1.1, by simpa using h3.1.1.2, h3.1.2, h3.2⟩
      · cases h3
    · have := h4 k (List.mem_range.2 hk)
      rw [hok] at this
      simp only [zat, Bool.or_eq_true, znt] at this
      refine ⟨fun t' ht hn => ?_, this.2⟩
      rcases this.1 with q | q
      · rw [ht] at q
        simp only [Option.any_some] at q
        rw [List.contains_iff_mem.2 hn] at q
        cases q
      · exact q
  · cases h

/-- what is known of a store that may come up ahead of its place: it goes to box i0, which no later reading looks at -/
structure FloatAt (ops : Array Oper) (c : Nat) (s : Nat → St) (i0 : Nat) (o : Oper) : Prop where
  sto : ∃ ty t x, o.op = .store ty (.tmp t) x ∧ o.guard = none ∧ o.dst = none ∧ ev (s c).fr (.tmp t) = .ptr i0 0
  rd : ∀ k ok, k < c → ops[k]? = some ok → ((∀ t', ok.dst = some t' → t' ∈ names o → before (masks ops) k c = true) ∧ (before (masks ops) k c = true ∨ ∀ t y off i, ok.op = .load t y → ev (s k).fr y = .ptr i off → i ≠ i0))
  al : ∀ listed : Array Bool, (∀ k, k < c → before (masks ops) k c = true → listed.getD k false = true) → AL s c listed i0
/-- a store into a variable that the region has laid -/
theorem FloatAt.own {s : Nat → St} {dv : Nat → D} (T : Trace P pc ops c s dv) (hok : drawOkF fl ops c = true) (hc : c ≤ ops.size) (hrel : Rel P base w0 ok0 g0 (s 0) a0 w1) {o : Oper} (_ho : ops[c]? = some o) (hfl : floatOk ops c o = true) (hst : (astep P call ops.toList (s c) o).isSome = true) : ∃ i0, FloatAt ops c s i0 o := by
  obtain ⟨ty, t, x, hop, hgd, hds, ⟨m, om, hm, hom, hmd, hmg, hma, hmb⟩, hk⟩ := floatOk_at hfl
  obtain ⟨σm, hsm, hsm2⟩ := T.step m om hm hom
  rw [if_pos (by unfold awant; rw [hmg])] at hsm
  have hdm : dv m = .ptr (s m).bx.length 0 ∧ (s (m + 1)).bx.length = (s m).bx.length + 1 := by
    cases hmo : om.op with
    | alloc ta =>
      simp only [aeff, hmo] at hsm
      split at hsm
      · obtain ⟨e1, e2⟩ := Prod.mk.inj (Option.some.inj hsm)
        rw [hsm2, (put_bx _ _ _).1, ← e2, ← e1]
        exact ⟨rfl, by simp⟩
      · cases hsm
    | _ => rw [hmo] at hma; cases hma
  have hnew : (s 0).bx.length ≤ (s m).bx.length := (T.bx hok hc 0 m (by omega) (by omega)).1
  have hdt : dstAt ops m = some t := by simp [dstAt, hom, hmd]
  have hpt : ev (s c).fr (.tmp t) = .ptr (s m).bx.length 0 := by
    simp only [ev]
    by_cases hlt : t < (s 0).fr.length
    · rw [T.new hok hc c (Nat.le_refl _) m t hm hdt hlt, hdm.1]; rfl
    · exfalso
      obtain ⟨σ1, hst⟩ := Option.isSome_iff_exists.1 hst
      unfold astep at hst
      rw [if_pos (by unfold awant; rw [hgd])] at hst
      rw [Option.map_eq_some_iff] at hst
      obtain ⟨⟨d, σ2⟩, hst, e2⟩ := hst
      simp only [aeff, hop, astore] at hst
      rw [Option.map_eq_some_iff] at hst
      obtain ⟨σ3, hst, e3⟩ := hst
      have hn : ev (s c).fr (.tmp t) = .undef := by
        simp only [ev]
        rw [List.getElem?_eq_none (by rw [T.len hok hc c (Nat.le_refl _)]; exact Nat.le_of_not_lt hlt)]; rfl
      rw [hn] at hst
      split at hst
      · rename_i hpe; cases hpe
      · rename_i hpe; cases hpe
      · cases hst
  refine ⟨(s m).bx.length, ⟨ty, t, x, hop, hgd, hds, hpt⟩, fun k ok hkc hkk => ⟨(hk k ok hkc hkk).1, (hk k ok hkc hkk).2.imp id fun hroot t' y off i q1 q2 => ?_⟩, fun listed hl => .inr ⟨m, hm, hl m hm hmb, rfl, hdm.2⟩⟩
  unfold rootOk at hroot
  rw [q1] at hroot
  have := root_lt T hok hc hrel _ y hroot k (by omega) i off q2
  omega
theorem getD_other {listed : Array Bool} {i j : Nat} (h : i ≠ j) : (listed.setIfInBounds j true).getD i false = listed.getD i false := getD_set_ne false (fun e => h e.symm)
/-- the store comes up ahead of its place -/
theorem PInv.float {s : Nat → St} {dv : Nat → D} (T : Trace P pc ops c s dv) (hok : drawOkF fl ops c = true) (hc : c ≤ ops.size) (hrel : Rel P base w0 ok0 g0 (s 0) a0 w1) {g : Gh} {listed : Array Bool} {a : Act} {w : World} (h : PInv P base w0 ok0 ops c s dv none g0 a0 w1 g listed a w) (hcl : Closed ops listed) (hls : listed.size = ops.size) {o : Oper}
    (ho : ops[c]? = some o) (hall : ∀ e ∈ o.after, Region.binds .any e = true → listed.getD e.on false = true) {i0 : Nat} (hfl : FloatAt ops c s i0 o) {σ1 : St} (hst : astep P call ops.toList (s c) o = some σ1) {K : Act → World → Prop}
    (hK : ∀ a' w' g' x, PInv P base w0 ok0 ops c s dv (some x) g0 a0 w1 g' (listed.setIfInBounds c true) a' w' → Ahead s c (listed.setIfInBounds c true) x → x.1 = i0 → x.1 < (s c).bx.length → σ1 = ovSt (some x) (s c) → K a' w') :
    if Region.wanted o (yielded ops a.tmps) then o.wpIn (fence ro) n P a w K Q else (∀ f, o.about P w a.eval = some f → (fence ro).fn f) ∧ K (a.put o.dst undef) w := by
  obtain ⟨⟨ty, t, x, hop, hgd, hds, hpt⟩, hk, hal⟩ := hfl
  obtain ⟨k1, _, _, _⟩ := drawOk_at hok ho
  have hcs : c < ops.size := (Array.getElem?_eq_some_iff.1 ho).1
  have hsz : (s 0).fr.length = a.tmps.size := by rw [h.size]; exact hrel.len
  have hlen : (s c).fr.length = a.tmps.size := by rw [T.len hok hc c (Nat.le_refl _)]; exact hsz
  have hlist : ∀ i, i < c → before (masks ops) i c = true → listed.getD i false = true := fun i _ hb => listed_of_before hcl ho hall hb
  -- the operands
  have hslot : ∀ t' ∈ names o, val w g (((s c).fr[t']?).getD .undef) (a.tmps.getD t' Go.undef) := by
    intro t' ht'
    by_cases hw : ∃ i, i < c ∧ dstAt ops i = some t'
    · obtain ⟨i, hi, hd⟩ := hw
      have oi : ops[i]? = some ops[i] := Array.getElem?_eq_getElem (by omega)
      have di : ops[i].dst = some t' := by simpa [dstAt, oi] using hd
      have hl := hlist i hi ((hk i _ hi oi).1 t' di ht')
      by_cases hlt : t' < a.tmps.size
      · obtain ⟨v, q1, q2⟩ := h.got i hi hl t' hd hlt
        rw [T.new hok hc c (Nat.le_refl _) i t' hi hd (by rw [hsz]; exact hlt), Array.getD_eq_getD_getElem?, q1]
        exact q2
      · rw [List.getElem?_eq_none (by rw [hlen]; exact Nat.le_of_not_lt hlt), Array.getD_eq_getD_getElem?, Array.getElem?_eq_none (Nat.le_of_not_lt hlt)]; rfl
    · have hno : ∀ i, i < c → dstAt ops i ≠ some t' := fun i hi hd => hw ⟨i, hi, hd⟩
      rw [T.old hok hc c (Nat.le_refl _) t' hno, Array.getD_eq_getD_getElem?, h.same t' (fun i hi _ => hno i hi)]
      cases hf : (s 0).fr[t']? with
      | none =>
        have : a0.tmps[t']? = none := by rw [Array.getElem?_eq_none_iff, ← hrel.len]; exact List.getElem?_eq_none_iff.1 hf
        rw [this]; rfl
      | some d =>
        obtain ⟨v, q1, q2⟩ := hrel.fr t' d hf
        rw [q1]; exact q2.ext h.ext
  have hv := ops_vals k1 hslot
  have hwant : Region.wanted o (yielded ops a.tmps) = true := by unfold Region.wanted; rw [hgd]
  rw [if_pos hwant]
  unfold astep at hst
  rw [if_pos (by unfold awant; rw [hgd])] at hst
  rw [Option.map_eq_some_iff] at hst
  obtain ⟨⟨d, σ2⟩, hst, e2⟩ := hst
  rw [hds] at e2
  simp only [St.put] at e2
  subst e2
  have hal : AL s c listed i0 := hal listed hlist
  simp only [aeff, hop, astore] at hst
  rw [Option.map_eq_some_iff] at hst
  obtain ⟨σ3, hst, e3⟩ := hst
  cases e3
  split at hst
  · rename_i y i off hy hpe
    split at hst
    · rename_i cs hcs'
      split at hst
      · rename_i hcond
        obtain ⟨hgood, hl, hle⟩ := hcond
        cases hst
        have hp := hv (.tmp t) (by simp [hop, Op.operands])
        have hx := hv x (by simp [hop, Op.operands])
        rw [hpe] at hp
        have hi : i = i0 := by
          rw [hpt] at hpe
          cases hpe; rfl
        subst hi
        obtain ⟨b, hβ, hpv⟩ := val_ptr hp
        have hbx : bxL s c listed i = some cs := by unfold bxL; rw [if_pos hal]; exact hcs'
        obtain ⟨vs, sp, tyb, q2, q3⟩ := h.rw_.boxesAt.cells (i := i) hbx hβ
        have hR := (hx.to1 hgood).val_cells
        have hlen := R_agg_len q3
        have hcl' : (a.eval x).cells.toList.length = y.sz := by rw [hR.len]; exact hl
        obtain ⟨inf, u, hi', hu, hsz', _⟩ := tyOf_some hy
        have hrun := run_storeCells_at (P := P) b off tyb (a.eval x).cells.toList 0 (vs ++ sp).toArray w q2 (by simp only [List.size_toArray, zla]; omega) hR.one
        simp only [Nat.add_zero, hcl'] at hrun
        have hsp : (vs ++ sp).take off ++ (a.eval x).cells.toList ++ (vs ++ sp).drop (off + y.sz) = (vs.take off ++ (a.eval x).cells.toList ++ vs.drop (off + y.sz)) ++ sp := by
          rw [List.take_append_of_le_length (by omega), List.drop_append_of_le_length (by omega)]; simp
        replace hrun := hrun.trans (congrArg (fun l : List Value => Result.ok () (w.setRow b l.toArray)) hsp)
        have hnewR : R w g (.agg (cs.take off ++ (ev (s c).fr x).cells ++ cs.drop (off + y.sz))) (vs.take off ++ (a.eval x).cells.toList ++ vs.drop (off + y.sz)) := by
          refine R_agg_append (R_agg_append ?_ hR.cell) ?_
          · have := R_agg_sub q3 0 off; simpa using this
          · have := R_agg_sub q3 (off + y.sz) (cs.length - (off + y.sz))
            rw [List.take_of_length_le (by simp), List.take_of_length_le (by simp; omega)] at this
            exact this
        obtain ⟨r1, r2⟩ := RW.put h.rw_ (w' := w.setRow b (vs.take off ++ (a.eval x).cells.toList ++ vs.drop (off + y.sz) ++ sp).toArray) hβ.1 (by simp) (fun c hc => setRow_other w b c _ hc) ⟨rfl, rfl, rfl⟩ (fun e => by rw [hβ.2]; exact ⟨_, sp, tyb, setRow_heap w b (vs ++ sp).toArray _ tyb (0, 0) q2, hnewR.ext e⟩)
        have hrun2 : (execOp a.eval o).run P w = .ok .skip (w.setRow b (vs.take off ++ (a.eval x).cells.toList ++ vs.drop (off + y.sz) ++ sp).toArray) := by
          simp only [execOp, hop, hpv]
          refine (show ((do Instr.storeAt ty (.pointer (some ⟨b, off, none⟩)) (a.eval x); pure Next.skip) : Sem Next).run P w = _ from ?_)
          rw [Sem.run_bind]
          have : (Instr.storeAt ty (.pointer (some ⟨b, off, none⟩)) (a.eval x)).run P w = .ok () (w.setRow b (vs.take off ++ (a.eval x).cells.toList ++ vs.drop (off + y.sz) ++ sp).toArray) := by
            show (storeVar ty ⟨b, off, none⟩ (a.eval x)).run P w = _
            unfold storeVar
            rw [Sem.run_bind, run_size hi', Result.andThen_ok, if_neg (by rw [← hsz', ← hcl']; simp)]
            exact hrun
          rw [this]
          rfl
        have hoth : ∀ i, i < c → (listed.setIfInBounds c true).getD i false = listed.getD i false := fun i hi => getD_other (by omega)
        have hAL : ∀ i, AL s c (listed.setIfInBounds c true) i ↔ AL s c listed i := fun i => by
          unfold AL
          refine or_congr Iff.rfl (exists_congr fun k => ⟨fun q => ⟨q.1, by rw [← hoth k q.1]; exact q.2.1, q.2.2⟩, fun q => ⟨q.1, by rw [hoth k q.1]; exact q.2.1, q.2.2⟩⟩)
        have hSL : ∀ i, SL s c (listed.setIfInBounds c true) i ↔ SL s c listed i := fun i => exists_congr fun k => ⟨fun q => ⟨q.1, by rw [← hoth k q.1]; exact q.2.1, q.2.2⟩, fun q => ⟨q.1, by rw [hoth k q.1]; exact q.2.1, q.2.2⟩⟩
        have hCL : ∀ i, CL s c (listed.setIfInBounds c true) i ↔ CL s c listed i := fun i => exists_congr fun k => ⟨fun q => ⟨q.1, by rw [← hoth k q.1]; exact q.2.1, q.2.2⟩, fun q => ⟨q.1, by rw [hoth k q.1]; exact q.2.1, q.2.2⟩⟩
        have hbL : ∀ i, bxL s c (listed.setIfInBounds c true) i = bxL s c listed i := fun i => by
          unfold bxL
          by_cases hq : AL s c listed i
          · rw [if_pos hq, if_pos ((hAL i).2 hq)]
          · rw [if_neg hq, if_neg (fun q => hq ((hAL i).1 q))]
        refine ⟨fun f _ => fence_fn ro f, ?_⟩
        have hnd : ∀ c, o.op ≠ .defer c := fun c e => by rw [hop] at e; cases e
        rw [Oper.semAt_plain _ _ _ hnd, hrun2]
        show K (a.put o.dst undef) _
        rw [hds]
        refine hK a _ g (i, cs.take off ++ (ev (s c).fr x).cells ++ cs.drop (off + y.sz)) ⟨?_, h.ext.trans r2, h.df, h.size, fun t' ht' => h.same t' (fun i hi hl => ht' i hi (by rw [hoth i hi]; exact hl)), fun i hi hl t' hd ht' => ?_, fun z hz => ?_⟩ ⟨(hAL _).2 hal⟩ rfl (List.getElem?_eq_some_iff.1 hcs').1 rfl
        · refine ((r1.same_bx (fun i => ?_)).more (fun i q => q.imp id (hSL i).2)).drop (fun i q => ⟨q.1.imp id (hSL i).1, fun q' => q.2 ((hCL i).2 q')⟩)
          simp only [bxO, hbL]
        · rw [hoth i hi] at hl
          obtain ⟨v, q1, q2⟩ := h.got i hi hl t' hd ht'
          exact ⟨v, q1, q2.ext r2⟩
        · cases hz; exact ⟨⟨b, hβ.1⟩, hβ.2⟩
      · cases hst
    · cases hst
  · rename_i y i off n ln hy hpe
    rw [hpt] at hpe
    cases hpe
  · cases hst

/-- in the middle of the region -/
def DInv (P : Program) (base : Nat) (w0 : World) (ok0 : Gh) (call : Nat → List D → St → Option (D × St)) (ops : Array Oper) (c : Nat) (s : Nat → St) (dv : Nat → D) (g0 : Gh) (a0 : Act) (w1 : World) (σ' : St) (listed : Array Bool) (a : Act) (w : World) : Prop :=
  listed.size = ops.size ∧ Closed ops listed ∧
    (((∀ i, c ≤ i → listed.getD i false = false) ∧ ∃ g, PInv P base w0 ok0 ops c s dv none g0 a0 w1 g listed a w) ∨
     (∃ g x o, ops[c]? = some o ∧ FloatAt ops c s x.1 o ∧ listed.getD c false = true ∧ (∀ i, c < i → listed.getD i false = false) ∧ PInv P base w0 ok0 ops c s dv (some x) g0 a0 w1 g listed a w ∧ Ahead s c listed x ∧ x.1 < (s c).bx.length ∧ aops P call ops.toList (ops.toList.drop (c + 1)) (ovSt (some x) (s c)) = some σ') ∨
     (∃ k σk g, c < k ∧ k ≤ ops.size ∧ (∀ i, listed.getD i false = decide (i < k)) ∧ Rel P base w0 ok0 g σk a w ∧ aops P call ops.toList (ops.toList.drop k) σk = some σ' ∧ Ext g0 w1 g w ∧ a.defers = a0.defers))

/-- a region that draws its order -/
theorem draw_wpF {id : Nat} (hflt : ∀ (s : Nat → St) (dv : Nat → D) (a0 : Act) (g0 : Gh) (w1 : World), Trace P pc ops c s dv → s 0 = σ → s c = σc → Rel P base w0 ok0 g0 (s 0) a0 w1 → ∀ o, ops[c]? = some o → fl ops c o = true → (astep P call ops.toList (s c) o).isSome = true → ∃ i0, FloatAt ops c s i0 o) (hm : P.follows .mixedOrders = true) (hpc : PCallOk P pc) (hcall : CallOk P base w0 ok0 call) (hok : drawOkF fl ops c = true) (hc : c ≤ ops.size) (hrel : Rel P base w0 ok0 g0 σ a0 w1)
    (h1 : aops P (pcall pc) ops.toList (ops.toList.take c) σ = some σc) (h2 : aops P call ops.toList (ops.toList.drop c) σc = some σ')
    (hQ : ∀ a' w' g', Rel P base w0 ok0 g' σ' a' w' → Ext g0 w1 g' w' → a'.defers = a0.defers → Q .normal a' w') : (Code.region id ops true).wpIn (fence ro) n P Q a0 w1 := by
  have hclen : (ops.toList.take c).length = c := by simp; omega
  obtain ⟨s, dv, e1, e2, e3⟩ := trace_of (ops := ops) (ops.toList.take c) σ σc 0 (fun j hj => by
    rw [hclen] at hj
    rw [Nat.zero_add, List.getElem?_take, if_pos hj]; simp) h1
  rw [hclen, Nat.zero_add] at e2
  have T : Trace P pc ops c s dv := ⟨fun j o hj ho => e3 j o (Nat.zero_le _) (by rw [hclen]; omega) ho⟩
  obtain ⟨hrel1, hext1⟩ := hrel.drew
  rw [← e1] at hrel1
  have hback : ∀ j o, ops[j]? = some o → ∀ e ∈ o.after, Region.binds .any e = true → e.on < j := fun j o ho => (drawOk_at hok ho).2.1
  refine wpIn_region_any hm (wpAnyIn_inv (DInv P base w0 ok0 call ops c s dv g0 a0 w1.drew σ') ?_ ?_ _ _ _ _ ?_ (by simp))
  · rintro listed a w i o ⟨hls, hcl, hph⟩ hun ho hall
    have hi : i < ops.size := (Array.getElem?_eq_some_iff.1 ho).1
    have hun' : listed.getD i false = false := by
      have hil : i < listed.size := by omega
      simp only [Array.getD_eq_getD_getElem?, Array.getElem?_eq_getElem hil, zgd] at hun ⊢
      exact hun
    have hready : i ∈ Region.ready .any ops listed := mem_ready.2 ⟨hun, o, ho, hall⟩
    have hcl' : Closed ops (listed.setIfInBounds i true) := hcl.set hready
    have hls' : (listed.setIfInBounds i true).size = ops.size := by simpa using hls
    obtain ⟨k1, _, k3, _⟩ := drawOk_at hok ho
    -- an operation of the second part comes up when all before it have
    have hbefore' : (∀ j, j < i → before (masks ops) j i = true) → ∀ j, j < i → listed.getD j false = true := fun hb j hj => listed_of_before hcl ho hall (hb j hj)
    have hcut : ∀ (k : Nat) (σk : St), ops[k]? = some o → aops P call ops.toList (ops.toList.drop k) σk = some σ' → ∃ σ1, astep P call ops.toList σk o = some σ1 ∧ aops P call ops.toList (ops.toList.drop (k + 1)) σ1 = some σ' := by
      intro k σk hko hA
      have hks : k < ops.size := (Array.getElem?_eq_some_iff.1 hko).1
      have hdrop : ops.toList.drop k = o :: ops.toList.drop (k + 1) := by
        rw [List.drop_eq_getElem_cons (by simpa using hks)]
        congr 1
        have : ops[k] = o := by rw [Array.getElem?_eq_getElem hks] at hko; exact Option.some.inj hko
        simpa using this
      rw [hdrop] at hA
      unfold aops at hA
      split at hA
      · rename_i σ1 hst; exact ⟨σ1, hst, hA⟩
      · cases hA
    -- a step of the second part
    have second : (∀ j, j < i → listed.getD j false = true) → ∀ (k : Nat) (σk : St) (g : Gh), c ≤ k → k ≤ ops.size → (∀ i, listed.getD i false = decide (i < k)) → Rel P base w0 ok0 g σk a w → aops P call ops.toList (ops.toList.drop k) σk = some σ' → Ext g0 w1.drew g w → a.defers = a0.defers →
        if Region.wanted o (yielded ops a.tmps) = true then o.wpIn (fence ro) n P a w (DInv P base w0 ok0 call ops c s dv g0 a0 w1.drew σ' (listed.setIfInBounds i true)) Q
        else (∀ f, o.about P w a.eval = some f → (fence ro).fn f) ∧ DInv P base w0 ok0 call ops c s dv g0 a0 w1.drew σ' (listed.setIfInBounds i true) (a.put o.dst undef) w := by
      intro hbf k σk g hk1 hk2 hk3 hR hA hE hD
      have hik : i = k := by
        have h0 : ¬ i < k := fun q => by have := hk3 i; rw [hun'] at this; simp [q] at this
        by_cases e : i = k
        · exact e
        · have := hbf k (by omega)
          rw [hk3 k] at this
          simp at this
      subst hik
      obtain ⟨σ1, hst, hA⟩ := hcut i σk ho hA
      refine step_wp hcall hR k1 hst (fun a' w' g' q1 q2 q3 => ⟨hls', hcl', .inr (.inr ⟨i + 1, σ1, g', by omega, by omega, fun j => ?_, q1, hA, hE.trans q2, q3.trans hD⟩)⟩)
      by_cases hj : j = i
      · subst hj
        rw [show (listed.setIfInBounds j true).getD j false = true from (set_listed (by omega)).2 (.inr rfl)]; simp
      · rw [getD_set_ne false (fun e => hj e.symm), hk3 j]
        by_cases hlt : j < i
        · simp [hlt]; omega
        · simp [hlt]; omega
    rcases hph with ⟨hno, g, hP⟩ | ⟨g, x, oc, hoc, hfc, hlc, hno, hP, hah, hxl, hA⟩ | ⟨k, σk, g, hk1, hk2, hk3, hR, hA, hE, hD⟩
    · by_cases hic : i < c
      · refine hP.step hpc T hok hc hrel1 hcl hls hic hun' ho hall (fun x hx => by cases hx) (fun a' w' g' q => ⟨hls', hcl', .inl ⟨fun j hj => ?_, g', q⟩⟩)
        rw [getD_set_ne false (by omega)]
        exact hno j hj
      · rcases k3 (by omega) with hb | ⟨hci, hfl⟩
        · have hcall' := hbefore' hb
          have hR := hP.rel T hok hc hrel1 (fun j hj => hcall' j (by omega)) (fun x hx => by cases hx)
          have hci : i = c := by
            by_cases e : i = c
            · exact e
            · have := hcall' c (by omega)
              rw [hno c (Nat.le_refl _)] at this; cases this
          refine second hcall' c (s c) g (Nat.le_refl _) hc (fun j => ?_) hR (by rw [e2]; exact h2) hP.ext hP.df
          by_cases hj : j < c
          · rw [hcall' j (by omega)]; simp [hj]
          · rw [hno j (by omega)]; simp [hj]
        · subst hci
          obtain ⟨σ1, hst, hA⟩ := hcut i (s i) ho (by rw [e2]; exact h2)
          obtain ⟨i0, hfa⟩ := hflt s dv _ _ _ T e1 e2 hrel1 o ho hfl (by rw [hst]; rfl)
          refine hP.float T hok hc hrel1 hcl hls ho hall hfa hst (fun a' w' g' x q1 q2 q5 q3 q4 => ⟨hls', hcl', .inr (.inl ⟨g', x, o, ho, q5 ▸ hfa, (set_listed (by omega)).2 (.inr rfl), fun j hj => ?_, q1, q2, q3, by rw [← q4]; exact hA⟩)⟩)
          rw [getD_set_ne false (by omega)]
          exact hno j (by omega)
    · by_cases hic : i < c
      · have hroot : ∀ t y off i', o.op = .load t y → ev (s i).fr y = .ptr i' off → i' ≠ x.1 := by
          rcases (hfc.rd i o hic ho).2 with q | q
          · have := listed_of_before hcl hoc (hcl c oc hoc hlc) q
            rw [hun'] at this; cases this
          · exact q
        refine hP.step hpc T hok hc hrel1 hcl hls hic hun' ho hall (fun x' hx => ?_) (fun a' w' g' q => ⟨hls', hcl', .inr (.inl ⟨g', x, oc, hoc, hfc, (set_listed (by omega)).2 (.inl hlc), fun j hj => ?_, q, ⟨?_⟩, hxl, hA⟩)⟩)
        · cases hx
          exact ⟨hah, fun i' ⟨t, y, off, q1, q2⟩ => hroot t y off i' q1 q2⟩
        · rw [getD_set_ne false (by omega)]
          exact hno j hj
        · rcases hah.al with q | ⟨k, q1, q2, q3⟩
          · exact .inl q
          · exact .inr ⟨k, q1, (set_listed (by omega)).2 (.inl q2), q3⟩
      · have hic' : c < i := by
          rcases Nat.lt_or_ge c i with q | q
          · exact q
          · obtain rfl : i = c := by omega
            rw [hun'] at hlc; cases hlc
        have hb : ∀ j, j < i → before (masks ops) j i = true := (k3 (by omega)).resolve_right (fun q => by omega)
        have hcall' := hbefore' hb
        have hR := hP.rel T hok hc hrel1 (fun j hj => hcall' j (by omega)) (fun x' hx => by cases hx; exact hxl)
        have hcs : c < ops.size := (Array.getElem?_eq_some_iff.1 hoc).1
        refine second hcall' (c + 1) _ g (by omega) (by omega) (fun j => ?_) hR hA hP.ext hP.df
        by_cases hj : j < c + 1
        · rw [hcall' j (by
            by_cases e : c + 1 ≤ i
            · omega
            · omega)]; simp [hj]
        · rw [hno j (by omega)]; simp [hj]
    · have hb : ∀ j, j < i → before (masks ops) j i = true := by
        have h0 : ¬ i < k := fun q => by have := hk3 i; rw [hun'] at this; simp [q] at this
        exact (k3 (by omega)).resolve_right (fun q => by omega)
      exact second (hbefore' hb) k σk g (by omega) hk2 hk3 hR hA hE hD
  · rintro listed a w ⟨hls, hcl, hph⟩ hr
    have hal := all_listed' hls hback hr
    rcases hph with ⟨hno, g, hP⟩ | ⟨g, x, oc, hoc, hfc, hlc, hno, hP, hah, hxl, hA⟩ | ⟨k, σk, g, hk1, hk2, hk3, hR, hA, hE, hD⟩
    · have hcN : c = ops.size := by
        by_cases e : c = ops.size
        · exact e
        · have := hal c (by omega)
          rw [hno c (Nat.le_refl _)] at this; cases this
      have hR := hP.rel T hok hc hrel1 (fun j hj => hal j (by omega)) (fun x hx => by cases hx)
      rw [hcN, List.drop_eq_nil_of_le (by simp)] at h2
      have h2' : σc = σ' := Option.some.inj h2
      have hR' : Rel P base w0 ok0 g (s c) a w := hR
      rw [e2, h2'] at hR'
      exact hQ a w g hR' (hext1.trans hP.ext) hP.df
    · have hcs : c < ops.size := (Array.getElem?_eq_some_iff.1 hoc).1
      have hcN : c + 1 = ops.size := by
        by_cases e : c + 1 = ops.size
        · exact e
        · have := hal (c + 1) (by omega)
          rw [hno (c + 1) (by omega)] at this; cases this
      have hR := hP.rel T hok hc hrel1 (fun j hj => hal j (by omega)) (fun x' hx => by cases hx; exact hxl)
      rw [hcN, List.drop_eq_nil_of_le (by simp)] at hA
      have hA' := Option.some.inj hA
      rw [hA'] at hR
      exact hQ a w g hR (hext1.trans hP.ext) hP.df
    · have hkN : k = ops.size := by
        by_cases e : k = ops.size
        · exact e
        · have := hal k (by omega)
          rw [hk3 k] at this; simp at this
      rw [hkN, List.drop_eq_nil_of_le (by simp)] at hA
      have hA' : σk = σ' := Option.some.inj hA
      rw [hA'] at hR
      exact hQ a w g hR (hext1.trans hE) hD
  · have hnone : ∀ i, (Array.replicate ops.size false).getD i false = false := fun i => by
      rw [Array.getD_eq_getD_getElem?, Array.getElem?_replicate]; split <;> rfl
    have hcl0 : Closed ops (Array.replicate ops.size false) := by
      intro j o _ hl
      rw [hnone j] at hl
      cases hl
    refine ⟨by simp, hcl0, .inl ⟨fun i _ => hnone i, g0, ?_, Ext.refl _ _, rfl, rfl, fun _ _ => rfl, fun i _ hl => (by rw [hnone i] at hl; cases hl), fun x hx => (by cases hx)⟩⟩
    have hSL : ∀ i, ¬ SL s c (Array.replicate ops.size false) i := fun i ⟨j, _, hl, _⟩ => by rw [hnone j] at hl; cases hl
    refine ((RW.same_bx hrel1.rs (bx' := bxL s c (Array.replicate ops.size false)) (fun i => ?_)).more (fun i q => .inl q)).drop (fun i q => q.1.resolve_right (hSL i))
    unfold bxL
    by_cases hal : AL s c (Array.replicate ops.size false) i
    · rw [if_pos hal]
      rcases hal with q | ⟨j, _, hl, _⟩
      · exact (T.bx hok hc 0 c (Nat.zero_le _) (Nat.le_refl _)).2 i q
      · rw [hnone j] at hl; cases hl
    · rw [if_neg hal]
      exact (List.getElem?_eq_none (Nat.le_of_not_lt fun q => hal (.inl q))).symm
theorem draw_wp {id : Nat} (hm : P.follows .mixedOrders = true) (hpc : PCallOk P pc) (hcall : CallOk P base w0 ok0 call) (hok : drawOk ops c = true) (hc : c ≤ ops.size) (hrel : Rel P base w0 ok0 g0 σ a0 w1)
    (h1 : aops P (pcall pc) ops.toList (ops.toList.take c) σ = some σc) (h2 : aops P call ops.toList (ops.toList.drop c) σc = some σ')
    (hQ : ∀ a' w' g', Rel P base w0 ok0 g' σ' a' w' → Ext g0 w1 g' w' → a'.defers = a0.defers → Q .normal a' w') : (Code.region id ops true).wpIn (fence ro) n P Q a0 w1 :=
  draw_wpF (fl := floatOk) (fun _ _ _ _ _ T _ _ hrel _ ho hfl hst => FloatAt.own T hok hc hrel ho hfl hst) hm hpc hcall hok hc hrel h1 h2 hQ
end

end Go.Proofs.Ytmglacjcefajlaa
