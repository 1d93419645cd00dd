import Derived.Test.YtmglacjcefajlaaAmReg5
import Derived.RangeFuncLeaves

/- The machine over data: code and calls; the one theorem that leads from a run over data to a call in memory. Over any program. -/
namespace Go.Proofs.Ytmglacjcefajlaa
open Go.RowKit

inductive Ex where
  | normal | ret | exit (id : Nat)
def Ex.to : Ex → Exit
  | .normal => .normal
  | .ret => .ret
  | .exit id => .exit id

/-- the program, the functions that may be run, and functions whose contracts come from elsewhere -/
structure Env where
  P : Program
  fs : Nat → Bool
  orc : Nat → List D → Option D

def resOne (P : Program) (σ : St) : ResultVar → Option D
  | .tmp t => (match σ.fr[t]? with
    | some d => if d.good then some d else none
    | none => none)
  | .cell a t => (match tyOf P t, σ.fr[a]? with
    | some y, some (.ptr i off) => (match σ.bx[i]? with
      | some cs => if off + y.sz ≤ cs.length then mkD y ((cs.drop off).take y.sz) else none
      | none => none)
    | _, _ => none)
def resAll (P : Program) (σ : St) : List ResultVar → Option (List D)
  | [] => some []
  | r :: rs => match resOne P σ r, resAll P σ rs with
    | some d, some l => some (d :: l)
    | _, _ => none
def resTup : List D → D
  | [d] => d
  | l => .tup l
def resD (P : Program) (fn : Func) (σ : St) : Option D := (resAll P σ fn.results.toList).map resTup

def enterSt (fn : Func) (args : List D) (bx : List (List D)) (nx : Nat) (lv : List Nat) : St := { fr := args ++ List.replicate (fn.ntmps - args.length) .undef, bx, nx, lv }

/-- a body, run: its result and the state behind -/
def bodyWith (E : Env) (ex : Code → St → Option (Ex × St)) (k : Nat) (args : List D) (bx : List (List D)) (nx : Nat) (lv : List Nat) : Option (D × St) :=
  if E.fs k then (match E.P.funcs[k]? with
    | some fn => (match fn.body with
      | some body => (match ex body (enterSt fn args bx nx lv) with
        | some (.normal, σ) => (resD E.P fn σ).map fun d => (d, σ)
        | some (.ret, σ) => (resD E.P fn σ).map fun d => (d, σ)
        | _ => none)
      | none => none)
    | none => none) else none

def hasRange : Code → Bool
  | .rangeFunc .. => true
  | .seq a b => hasRange a || hasRange b
  | .cond _ a b => hasRange a || hasRange b
  | .block _ b => hasRange b
  | .loop b => hasRange b
  | _ => false
/-- a call that is a function of its arguments -/
def pureWith (E : Env) (ex : Code → St → Option (Ex × St)) (k : Nat) (args : List D) : Option D :=
  if args.all (fun d => d.under 0 && d.good) then (match E.orc k (args.map D.strip) with
    | some d => some d
    | none => (match bodyWith E ex k (args.map D.strip) [] 0 [] with
      | some (d, _) => if d.under 0 then some d.strip else none
      | none => none)) else none

def plain (args : List D) : Bool := args.all fun d => d.under 0 && d.good
/-- any call: of data alone, or of data that lead to boxes -/
def callWith (E : Env) (ex : Code → St → Option (Ex × St)) (k : Nat) (args : List D) (σ : St) : Option (D × St) :=
  if plain args then (pureWith E ex k args).map fun d => (d, σ)
  else (match bodyWith E ex k args σ.bx σ.nx σ.lv with
    | some (d, σ') => if d.under σ.bx.length ∧ σ.bx.length ≤ σ'.bx.length ∧ (σ'.bx.take σ.bx.length).all (D.unders σ.bx.length) then some (d, { σ with bx := σ'.bx.take σ.bx.length, nx := σ'.nx, lv := σ'.lv }) else none
    | none => none)

def setPs (fr : List D) : List Nat → List D → List D
  | p :: ps, x :: xs => setPs (fr.set p x) ps xs
  | _, _ => fr
/-- the rounds of a range over a function that yields these data -/
def roundsD (ex : Code → St → Option (Ex × St)) (fr : List D) (ps : List Nat) (asg body : Code) : List (List D) → St → Option (Ex × St)
  | [], σ => some (.normal, { σ with fr := fr })
  | x :: r, σ => if x.length = ps.length then (match ex asg { σ with fr := setPs fr ps x } with
    | some (.normal, σ1) => (match ex body σ1 with
      | some (.normal, σ2) => roundsD ex fr ps asg body r σ2
      | some (e, σ2) => some (e, { σ2 with fr := fr })
      | none => none)
    | _ => none) else none
def exec (E : Env) : Nat → Code → St → Option (Ex × St)
  | 0, _, _ => none
  | n + 1, code, σ => match code with
    | .skip => some (.normal, σ)
    | .region _ ops draw =>
      if draw then (match aops E.P (pcall (pureWith E (exec E n))) ops.toList (ops.toList.take (cutOf ops)) σ with
        | some σ1 => (aops E.P (callWith E (exec E n)) ops.toList (ops.toList.drop (cutOf ops)) σ1).map fun σ2 => (.normal, σ2)
        | none => none)
      else (aops E.P (callWith E (exec E n)) ops.toList ops.toList σ).map fun σ2 => (.normal, σ2)
    | .seq a b => (match exec E n a σ with
      | some (.normal, σ1) => exec E n b σ1
      | r => r)
    | .cond c a b => (match ev σ.fr c with
      | .bool true => exec E n a σ
      | .bool false => exec E n b σ
      | _ => none)
    | .block id body => (match exec E n body σ with
      | some (.exit j, σ1) => some (if j = id then .normal else .exit j, σ1)
      | r => r)
    | .loop body => (match exec E n body σ with
      | some (.normal, σ1) => exec E n (.loop body) σ1
      | r => r)
    | .rangeFunc f ps asg body => (match ev σ.fr f with
      | .it L => roundsD (exec E n) σ.fr ps.toList asg body L σ
      | _ => none)
    | .exit id => some (.exit id, σ)
    | .ret => some (.ret, σ)
    | _ => none

def chkCode : Code → Bool
  | .region _ ops draw => if draw then drawOk ops (cutOf ops) else ops.all opOk
  | .seq a b => chkCode a && chkCode b
  | .cond c a b => (match c with | .tmp _ => true | _ => false) && chkCode a && chkCode b
  | .block _ b => chkCode b
  | .loop b => chkCode b
  | .rangeFunc f _ a b => (match f with | .tmp _ => true | _ => false) && chkCode a && chkCode b && !hasRange a && !hasRange b
  | _ => true

structure Env.Ok (E : Env) : Prop where
  mixed : E.P.follows .mixedOrders = true
  chk : ∀ k fn body, E.fs k = true → E.P.funcs[k]? = some fn → fn.body = some body → chkCode body = true
  orc : ∀ k args d, E.orc k args = some d → d.under 0 = true ∧ d.strip = d ∧ PContract E.P k args d

theorem cutFrom_le (m : List Nat) : ∀ n, cutFrom m n ≤ n
  | 0 => Nat.le_refl _
  | n + 1 => by
    have := cutFrom_le m n
    unfold cutFrom
    split
    · omega
    · exact Nat.le_refl _
theorem cut_le (ops : Array Oper) : cutOf ops ≤ ops.size := by
  have h := cutFrom_le (masks ops) ops.size
  unfold cutOf
  split
  · omega
  · rename_i c hc
    rw [hc] at h
    split
    · split <;> omega
    · exact h

section
variable {P : Program} {base : Nat} {w0 : World} {ok0 : Gh} {g : Gh} {σ : St} {a : Act} {w : World}

theorem resOne_sound (h : Rel P base w0 ok0 g σ a w) {w2 : World} (hw2 : ∀ p, w2.cell? p = w.cell? p) {r : ResultVar} {d : D} (hr : resOne P σ r = some d) :
    ∃ v, (match r with | .tmp t => pure (a.tmps.getD t Go.undef) | .cell p t => (do loadVar t (← asAddr (a.tmps.getD p Go.undef))) : Sem Value).run P w2 = .ok v w2 ∧ val1 w g d v := by
  cases r with
  | tmp t =>
    simp only [resOne] at hr
    split at hr
    · rename_i d' hd
      split at hr
      · rename_i hg
        cases hr
        obtain ⟨v, h1, h2⟩ := h.fr t d hd
        refine ⟨v, ?_, h2.to1 hg⟩
        simp [Array.getD_eq_getD_getElem?, h1]
      · cases hr
    · cases hr
  | cell p t =>
    simp only [resOne] at hr
    split at hr
    · rename_i y i off hy hp
      split at hr
      · rename_i cs hcs
        split at hr
        · rename_i hle
          obtain ⟨v, h1, h2⟩ := h.fr p _ hp
          obtain ⟨b, hβ, hv⟩ := val_ptr h2
          obtain ⟨vs, sp, ty, hh, hR⟩ := (RW.boxesAt h.rs).cells hcs hβ
          have hlen := R_agg_len hR
          have hsub := R_agg_sub hR off y.sz
          have hl : ((vs.drop off).take y.sz).length = y.sz := by simp; omega
          have hcell : ∀ m u, ((vs.drop off).take y.sz)[m]? = some u → w2.cell? ⟨b, off + m, none⟩ = some u := by
            intro m u hu
            rw [List.getElem?_take] at hu
            split at hu
            · rw [List.getElem?_drop] at hu
              rw [hw2, cell_of_row w b (off + m) _ _ _ hh, List.getElem?_toArray, List.getElem?_append_left (List.getElem?_eq_some_iff.1 hu).1]
              exact hu
            · cases hu
          have e0 : (do loadVar t (← asAddr (a.tmps.getD p Go.undef)) : Sem Value).run P w2 = (Instr.loadAt t (.pointer (some ⟨b, off, none⟩))).run P w2 := by
            rw [Array.getD_eq_getD_getElem?, h1, zgd, hv]; rfl
          unfold mkD at hr
          split at hr
          · rename_i hag
            cases hr
            have := run_loadAt (P := P) hy hl hcell (fun e => by rw [e] at hag; cases hag)
            refine ⟨_, e0.trans this, ?_⟩
            rw [if_pos hag]
            exact ⟨_, hsub, rfl⟩
          · rename_i hag
            split at hr
            · rename_i d0 hd0
              split at hr
              · cases hr
              · rename_i hna
                cases hr
                rw [hd0] at hsub
                obtain ⟨u, hu1⟩ : ∃ v, (vs.drop off).take y.sz = [v] := by
                  have := R_agg_len hsub
                  match hq : (vs.drop off).take y.sz, this with
                  | [v], _ => exact ⟨v, rfl⟩
                have := run_loadAt (P := P) hy hl hcell (fun _ => ⟨u, hu1⟩)
                refine ⟨_, e0.trans this, ?_⟩
                rw [if_neg hag, hu1]
                rw [hu1] at hsub
                obtain ⟨_, r⟩ := R_agg_at hsub 0 (by simp)
                exact (val_of_R r (by simpa using hna)).to1 r.good
            · cases hr
        · cases hr
      · cases hr
    · cases hr

theorem resAll_sound (h : Rel P base w0 ok0 g σ a w) {w2 : World} (hw2 : ∀ p, w2.cell? p = w.cell? p) : ∀ {rs : List ResultVar} {l : List D}, resAll P σ rs = some l →
    ∃ vs : List Value, (rs.mapM fun r => (match r with | .tmp t => pure (a.tmps.getD t Go.undef) | .cell p t => (do loadVar t (← asAddr (a.tmps.getD p Go.undef))) : Sem Value)).run P w2 = .ok vs w2 ∧ l.length = vs.length ∧ ∀ (j : Nat) (h : j < l.length) (h' : j < vs.length), val1 w g l[j] vs[j]
  | [], l, hr => by cases hr; exact ⟨[], rfl, rfl, fun j h => absurd h (Nat.not_lt_zero _)⟩
  | r :: rs, l, hr => by
    unfold resAll at hr
    split at hr
    · rename_i d l' h1 h2
      cases hr
      obtain ⟨v, q1, q2⟩ := resOne_sound h hw2 h1
      obtain ⟨vs, r1, r2, r3⟩ := resAll_sound h hw2 h2
      refine ⟨v :: vs, ?_, by simp [r2], fun j hj hj' => ?_⟩
      · rw [List.mapM_cons, Sem.run_bind, q1, Result.andThen_ok, Sem.run_bind, r1, Result.andThen_ok]; rfl
      · cases j with
        | zero => exact q2
        | succ j => exact r3 j (by simpa using hj) (by simpa using hj')
    · cases hr

theorem resD_sound (h : Rel P base w0 ok0 g σ a w) {w2 : World} (hw2 : ∀ p, w2.cell? p = w.cell? p) {fn : Func} {d : D} (hr : resD P fn σ = some d) : ∃ v, (results fn a.tmps).run P w2 = .ok v w2 ∧ val w g d v := by
  unfold resD at hr
  rw [Option.map_eq_some_iff] at hr
  obtain ⟨l, h1, rfl⟩ := hr
  obtain ⟨vs, q1, q2, q3⟩ := resAll_sound h hw2 h1
  have hrun : (results fn a.tmps).run P w2 = .ok (if h : vs.toArray.size = 1 then vs.toArray[0] else .tuple vs.toArray) w2 := by
    unfold results
    rw [Sem.run_bind, Array.mapM_eq_mapM_toList, Sem.run_map]
    erw [q1]
    rfl
  refine ⟨_, hrun, ?_⟩
  match l, vs, q2, q3 with
  | [], [], _, _ => exact ⟨[], rfl, rfl, fun j h => absurd h (Nat.not_lt_zero _)⟩
  | [d], [v], _, q3 => exact val.of1 (q3 0 (by simp) (by simp))
  | d1 :: d2 :: r, v1 :: v2 :: s, q2, q3 =>
    rw [dif_neg (by simp)]
    exact ⟨_, rfl, q2, q3⟩
end

end Go.Proofs.Ytmglacjcefajlaa

/- A run over data is a call in memory. Over any program. -/
namespace Go.Proofs.Ytmglacjcefajlaa
open Go.RowKit

/-- fewer boxes -/
theorem R.fewer {g : Gh} {w : World} {d : D} {cs : List Value} {m : Nat} (h : R w g d cs) (hu : d.under m = true) : R w { g with β := fun i => if i < m then g.β i else none } d cs := by
  induction h with
  | it L gf lb h => exact .it L gf lb h
  | nfn => exact .nfn
  | nmap => exact .nmap
  | mref i b h hm =>
    simp only [D.under, decide_eq_true_eq] at hu
    exact .mref i b (by show (if i < m then g.β i else none) = some b; rw [if_pos hu]; exact h) hm
  | bsl i off n len b cap h hm hc hm' hn =>
    simp only [D.under, decide_eq_true_eq] at hu
    exact .bsl i off n len b cap (by show (if i < m then g.β i else none) = some b; rw [if_pos hu]; exact h) hm hc hm' hn
  | bpt i off len b h hm =>
    simp only [D.under, decide_eq_true_eq] at hu
    exact .bpt i off len b (by show (if i < m then g.β i else none) = some b; rw [if_pos hu]; exact h) hm
  | any v h hb => exact .any v h hb
  | cmap l b es clock hp hh hl _ ih =>
    simp only [D.under, D.unders_all, List.all_eq_true] at hu
    exact .cmap l b es clock hp hh hl (fun j h => ih j h (hu _ (List.getElem_mem h)))
  | bool b => exact .bool b
  | int k n h => exact .int k n h
  | str s h => exact .str s h
  | agg l vs hl _ ih =>
    simp only [D.under, D.unders_all, List.all_eq_true] at hu
    exact .agg l vs hl (fun j h h' => ih j h h' (hu _ (List.getElem_mem h)))
  | slice o n l A cap cs hl hm ho hnil hA _ hn hc ih =>
    simp only [D.under, D.unders_all, List.all_eq_true] at hu
    exact .slice o n l A cap cs hl hm ho hnil hA (fun j h => ih j h (hu _ (List.getElem_mem h))) hn hc
  | ptr i off b h hm =>
    simp only [D.under, decide_eq_true_eq] at hu
    exact .ptr i off b (by show (if i < m then g.β i else none) = some b; rw [if_pos hu]; exact h) hm
  | elem d b off cs _ hc ih => exact .elem d b off cs (ih (by simpa [D.under] using hu)) hc
  | fn f c vs hl ha _ ih =>
    simp only [D.under, D.unders_all, List.all_eq_true] at hu
    exact .fn f c vs hl ha (fun j h h' => ih j h h' (hu _ (List.getElem_mem h)))
theorem val.fewer {g : Gh} {w : World} {d : D} {v : Value} {m : Nat} (h : val w g d v) (hu : d.under m = true) : val w { g with β := fun i => if i < m then g.β i else none } d v := by
  cases d with
  | undef => exact h
  | tup l =>
    obtain ⟨vs, h1, h2, h3⟩ := h
    simp only [D.under, D.unders_all, List.all_eq_true] at hu
    refine ⟨vs, h1, h2, fun j a b => ?_⟩
    obtain ⟨cs, q1, q2⟩ := h3 j a b
    exact ⟨cs, q1.fewer (hu _ (List.getElem_mem a)), q2⟩
  | _ =>
    obtain ⟨cs, q1, q2⟩ := h
    exact ⟨cs, q1.fewer hu, q2⟩

section
variable {E : Env} {base : Nat} {w0 : World} {ok0 : Gh}

theorem enter_rel {P : Program} {g : Gh} {fn : Func} {args : List D} {vs : List Value} {bx : List (List D)} {nx : Nat} {lv : List Nat} {w : World} (hr : RW P base w0 ok0 g (fun i => bx[i]?) (fun s => s < nx) (fun s => s ∈ lv) w) (hv : vals w g args vs) :
    Rel P base w0 ok0 g (enterSt fn args bx nx lv) { tmps := vs.toArray ++ Array.replicate (fn.ntmps - vs.toArray.size) Go.undef, defers := [] } w := by
  refine ⟨hr, by simp [enterSt, hv.1], fun t d q => ?_⟩
  simp only [enterSt] at q
  by_cases ht : t < args.length
  · rw [List.getElem?_append_left ht, List.getElem?_eq_getElem ht] at q
    cases q
    have ht' : t < vs.length := by have := hv.1; omega
    exact ⟨vs[t], by rw [Array.getElem?_append_left (by simpa using ht')]; simp [ht'], hv.2 t ht ht'⟩
  · rw [List.getElem?_append_right (by omega), List.getElem?_replicate] at q
    split at q
    · rename_i hlt
      cases q
      refine ⟨Go.undef, ?_, rfl⟩
      rw [Array.getElem?_append_right (by simp; have := hv.1; omega), Array.getElem?_replicate, if_pos]
      have := hv.1
      simp only [List.size_toArray]
      omega
    · cases q

/-- the marks that ranges over functions have left among the deferred calls -/
def markOf (D : Nat) : Deferred := { target := .collected D, args := #[] }
def Marks (lo : Nat) (g : Gh) (w : World) (ds ds' : List Deferred) : Prop :=
  ∃ Ds : List Nat, ds' = Ds.map markOf ++ ds ∧ Ds.Nodup ∧ ∀ D ∈ Ds, lo ≤ D ∧ g.kp D ∧ ¬ g.pr D ∧ w.heap[D]? = some (.deferred (some []))
theorem Marks.of_eq {lo : Nat} {g : Gh} {w : World} {ds ds' : List Deferred} (h : ds' = ds) : Marks lo g w ds ds' := ⟨[], h, .nil, fun _ h => by cases h⟩
theorem Marks.trans {lo : Nat} {g1 g2 : Gh} {w1 w2 : World} {d0 d1 d2 : List Deferred} (h : Marks lo g1 w1 d0 d1) (he : Ext g1 w1 g2 w2) (hl : lo ≤ w1.heap.size) (k : Marks w1.heap.size g2 w2 d1 d2) : Marks lo g2 w2 d0 d2 := by
  obtain ⟨D1, e1, n1, h1⟩ := h
  obtain ⟨D2, e2, n2, h2⟩ := k
  refine ⟨D2 ++ D1, by rw [e2, e1]; simp, ?_, fun D hD => ?_⟩
  · refine List.nodup_append.2 ⟨n2, n1, fun a ha b hb e => ?_⟩
    subst e
    have q1 := (h2 a ha).1
    have q2 := (Array.getElem?_eq_some_iff.1 (h1 a hb).2.2.2).1
    omega
  · rcases List.mem_append.1 hD with q | q
    · obtain ⟨r1, r2⟩ := h2 D q
      exact ⟨by omega, r2⟩
    · obtain ⟨r1, r2, r3, r4⟩ := h1 D q
      obtain ⟨x1, x2, _, x4⟩ := he.kp D r2
      exact ⟨r1, x1, fun q => r3 (x4 q), x2.trans r4⟩

/-- what is to be shown of all runs -/
def CodeOk (E : Env) (n : Nat) : Prop := ∀ (code : Code), chkCode code = true → ∀ (σ : St) (e : Ex) (σ' : St), exec E n code σ = some (e, σ') → ∀ (base : Nat) (w0 : World) (ok0 : Gh) (ro : Option Nat) (m : Nat) (Q : Exit → Act → World → Prop) (g : Gh) (a : Act) (w : World),
  (ro = none ∨ hasRange code = false) → Rel E.P base w0 ok0 g σ a w → (∀ a' w' g', Rel E.P base w0 ok0 g' σ' a' w' → Ext g w g' w' → Marks w.heap.size g' w' a.defers a'.defers → Q e.to a' w') → code.wpIn (fence ro) m E.P Q a w

/-- the marks are taken -/
def Shut (Ds : List Nat) (w w' : World) : Prop := (w'.os = w.os ∧ w'.tape = w.tape ∧ w'.output = w.output) ∧ w'.heap.size = w.heap.size ∧ (∀ b, b ∉ Ds → w'.heap[b]? = w.heap[b]?) ∧ ∀ b, b ∈ Ds → w'.heap[b]? = some (.deferred none)
theorem run_take {P : Program} {w : World} {D : Nat} (h : w.heap[D]? = some (.deferred (some []))) : (Instr.takeDeferred D).run P w = .ok [] (w.putObj D (.deferred none)) := by
  simp [Instr.takeDeferred, Sem.run_bind, getObj, setObj, Sem.run, h, Result.andThen, World.putObj]
theorem leaves_marks {P : Program} {fn : Func} {tmps : Array Value} {R : Ending → World → Prop} : ∀ (Ds : List Nat) (w : World), Ds.Nodup → (∀ D ∈ Ds, w.heap[D]? = some (.deferred (some []))) → (∀ w', Shut Ds w w' → ∃ v, (results fn tmps).run P w' = .ok v w' ∧ R (.returned v) w') → LeavesInM .wide 0 P fn tmps R (Ds.map markOf) .returning w
  | [], w, _, _, h => h w ⟨⟨rfl, rfl, rfl⟩, rfl, fun _ _ => rfl, fun _ q => by cases q⟩
  | D :: Ds, w, hn, hD, h => by
    obtain ⟨hn1, hn2⟩ := List.nodup_cons.1 hn
    have hlt := (Array.getElem?_eq_some_iff.1 (hD D List.mem_cons_self)).1
    refine ⟨by simp, .inl ⟨D, _, rfl, run_take (hD D List.mem_cons_self), leaves_marks Ds _ hn2 (fun D' h' => ?_) (fun w' hs => h w' ?_)⟩⟩
    · rw [World.putObj_heap_other (fun e => hn1 (by rw [← e]; exact h'))]
      exact hD D' (List.mem_cons_of_mem _ h')
    · obtain ⟨s1, s2, s3, s4⟩ := hs
      refine ⟨s1, by rw [s2]; simp, fun b hb => ?_, fun b hb => ?_⟩
      · rw [s3 b (fun q => hb (List.mem_cons_of_mem _ q)), World.putObj_heap_other (fun e => hb (by rw [e]; exact List.mem_cons_self))]
      · by_cases hb' : b ∈ Ds
        · exact s4 b hb'
        · rcases List.mem_cons.1 hb with e | e
          · rw [s3 b hb', e]; exact World.putObj_heap_same hlt
          · exact absurd e hb'

theorem body_ok (hE : E.Ok) {n : Nat} (hn : CodeOk E n) {k : Nat} {args : List D} {bx : List (List D)} {nx : Nat} {lv : List Nat} {d : D} {σ' : St} (h : bodyWith E (exec E n) k args bx nx lv = some (d, σ')) {g : Gh} {vs : List Value} {w : World}
    (hr : RW E.P base w0 ok0 g (fun i => bx[i]?) (fun s => s < nx) (fun s => s ∈ lv) w) (hv : vals w g args vs) :
    Calls E.P k vs.toArray w fun e w' => ∃ v g', e = .returned v ∧ RS E.P base w0 ok0 g' σ' w' ∧ Ext g w g' w' ∧ val w' g' d v := by
  unfold bodyWith at h
  split at h
  · rename_i hfs
    split at h
    · rename_i fn hf
      split at h
      · rename_i body hb
        have hchk := hE.chk k fn body hfs hf hb
        have key : ∀ e σ1, exec E n body (enterSt fn args bx nx lv) = some (e, σ1) → (e = .normal ∨ e = .ret) → (resD E.P fn σ1).map (fun d => (d, σ1)) = some (d, σ') →
            Calls E.P k vs.toArray w fun e w' => ∃ v g', e = .returned v ∧ RS E.P base w0 ok0 g' σ' w' ∧ Ext g w g' w' ∧ val w' g' d v := by
          intro e σ1 he hex hres
          rw [Option.map_eq_some_iff] at hres
          obtain ⟨d', hd', e'⟩ := hres
          cases e'
          refine callsIn_wide.1 (callsIn_of_wp_marks (n := 0) hf hb trivial ?_ rfl)
          refine hn body hchk _ _ _ he base w0 ok0 none 0 _ g _ w (.inl rfl) (enter_rel hr hv) (fun a' w' g' q1 q2 q3 => ?_)
          obtain ⟨Ds, m1, m2, m3⟩ := q3
          have fin : LeavesInM .wide 0 E.P fn a'.tmps (fun e w' => ∃ v g', e = .returned v ∧ RS E.P base w0 ok0 g' σ' w' ∧ Ext g w g' w' ∧ val w' g' d v) a'.defers .returning w' := by
            rw [show a'.defers = Ds.map markOf from by rw [m1]; simp]
            refine leaves_marks Ds w' m2 (fun D hD => (m3 D hD).2.2.2) (fun w2 hs => ?_)
            obtain ⟨s1, s2, s3, s4⟩ := hs
            have hcell : ∀ p, w2.cell? p = w'.cell? p := by
              intro p
              by_cases hp : p.block ∈ Ds
              · unfold World.cell?
                rw [s4 _ hp, (m3 _ hp).2.2.2]
              · exact World.cell?_of_block (s3 _ hp)
            obtain ⟨v, r1, r2⟩ := resD_sound q1 hcell hd'
            have hbs := RW.hbs hr
            have hg2 : RW E.P base w0 ok0 { g' with kp := g.kp } (fun i => σ'.bx[i]?) (fun s => s < σ'.nx) (fun s => s ∈ σ'.lv) w' := by
              refine RW.turn q1.rs (ok' := g'.ok) (fun _ _ q => q) (fun _ _ q => .inl q) (fun b q => RW.kept q1.rs b (q2.kp b q).1)
            obtain ⟨t1, t2⟩ := hg2.still (w' := w2) ⟨s1.1, s1.2.1, s1.2.2, by omega, fun k hk => s3 k (fun q => by have := (m3 k q).1; omega)⟩ (by omega) (fun i b q => s3 b (fun q' => (RW.kept q1.rs b (m3 b q').2.1).2.1 i q)) (fun s x b hs' hx hb => s3 b (fun q' => (RW.kept q1.rs b (m3 b q').2.1).2.2 s x hs' hx hb))
              (fun b o _ => hcell _) (fun b q => s3 b (fun q' => (m3 b q').2.2.1 q)) (fun b q => s3 b (fun q' => by have h1 := (m3 b q').1; have h2 := (RW.kept hr b q).1; omega))
            have hsub : Sub g' { g' with kp := g.kp } := ⟨fun _ _ q => q, fun _ _ q => q, fun _ _ q => q, fun _ q => q, fun _ _ q => q, fun _ _ _ => rfl⟩
            exact ⟨v, r1, v, { g' with kp := g.kp }, rfl, t1, (⟨q2.ok, q2.β, q2.ow, q2.cell, q2.pr, q2.it, q2.mp, fun b q => ⟨q, (q2.kp b q).2⟩, q2.size⟩ : Ext g w { g' with kp := g.kp } w').trans t2, (r2.sub hsub).ext t2⟩
          rcases hex with rfl | rfl <;> exact fin
        split at h
        · rename_i σ1 he; exact key _ _ he (.inl rfl) h
        · rename_i σ1 he; exact key _ _ he (.inr rfl) h
        · cases h
      · cases h
    · cases h
  · cases h

/-- an empty run's memory -/
theorem RW.start (P : Program) (w : World) (g : Gh) (h : Known P g w) : RW P w.heap.size w g { g with β := fun _ => none, ow := fun _ => none, kp := fun _ => False } (fun i => ([] : List (List D))[i]?) (fun s => s < 0) (fun s => s ∈ ([] : List Nat)) w :=
  { below := Below.refl _ _
    hbs := Nat.le_refl _
    okb := fun b o q => .inl ⟨h.ok b o q, q⟩
    box := fun i cs b q _ => (by simp at q)
    dom := fun i b q => (by cases q)
    inj := fun i j b q _ => (by cases q)
    row := fun s q => (by cases q)
    rinj := fun s s' x x' b q => (by cases q)
    fresh := fun s x q => (by cases q)
    prot := fun b q => ⟨h.pr b q, fun i q' => (by cases q'), fun s x q' => (by cases q')⟩
    iter := h.it
    kept := fun b q => q.elim
    prb := fun b _ q => q }

theorem vals_free {g : Gh} {w : World} {args : List D} {vs : List Value} (hv : vals w g args vs) (hu : args.all (fun d => d.under 0 && d.good) = true) : vals w { g with β := fun _ => none, ow := fun _ => none, kp := fun _ => False } (args.map D.strip) vs := by
  refine ⟨by simpa using hv.1, fun j h h' => ?_⟩
  rw [List.getElem_map]
  have h1 : j < args.length := by simpa using h
  have := List.all_eq_true.1 hu _ (List.getElem_mem h1)
  rw [zat] at this
  exact (hv.2 j h1 h').free this.1 _ ⟨fun _ _ q => q, fun _ q => q, fun _ _ q => q⟩

theorem pure_ok (hE : E.Ok) {n : Nat} (hn : CodeOk E n) : PCallOk E.P (pureWith E (exec E n)) := by
  intro k args d h
  unfold pureWith at h
  split at h
  · rename_i hall
    split at h
    · rename_i d' ho
      cases h
      obtain ⟨o1, o2, o3⟩ := hE.orc k _ d ho
      intro g vs w hk hv
      refine (o3 { g with β := fun _ => none, ow := fun _ => none, kp := fun _ => False } vs w ⟨hk.ok, hk.pr, hk.it⟩ (vals_free hv hall)).mono ?_
      rintro e w' ⟨v, g', rfl, hb, hg, hd⟩
      refine ⟨v, { g' with β := g.β, ow := g.ow, mp := g.mp, kp := g.kp }, rfl, hb, ⟨rfl, rfl, rfl, rfl, hg.ok1, hg.ok2, hg.pr1, hg.pr2, hg.it1, hg.it2⟩, ?_⟩
      have := hd.free o1 { g' with β := g.β, ow := g.ow, mp := g.mp, kp := g.kp } ⟨fun _ _ q => q, fun _ q => q, fun _ _ q => q⟩
      rw [o2] at this
      exact this
    · split at h
      · rename_i d' σ' hb
        split at h
        · rename_i hu
          cases h
          intro g vs w hk hv
          refine (body_ok hE hn hb (RW.start E.P w g hk) (vals_free hv hall)).mono ?_
          rintro e w' ⟨v, g', rfl, q1, q2, q3⟩
          have hb' : Below w.heap.size w w' := RW.below q1
          refine ⟨v, { g' with β := g.β, ow := g.ow, mp := g.mp, kp := g.kp }, rfl, hb', ⟨rfl, rfl, rfl, rfl, q2.ok, fun b o q => ?_, fun b q => (q2.pr b q).1, fun b q => ?_, q2.it, fun v L q => RW.iter q1 v L q⟩, q3.free hu _ ⟨fun _ _ q => q, fun _ q => q, fun _ _ q => q⟩⟩
          · rcases RW.okb q1 b o q with q | q
            · exact .inl q.2
            · exact .inr q
          · rcases Nat.lt_or_ge b w.heap.size with q' | q'
            · exact .inl (RW.prb q1 b q' q)
            · exact .inr ⟨q', (RW.prot q1 b q).1⟩
        · cases h
      · cases h
  · cases h

theorem call_ok (hE : E.Ok) {n : Nat} (hn : CodeOk E n) : CallOk E.P base w0 ok0 (callWith E (exec E n)) := by
  intro k args σ d σ' h
  unfold callWith at h
  split at h
  · rw [Option.map_eq_some_iff] at h
    obtain ⟨d', hp, e⟩ := h
    cases e
    exact ⟨rfl, fun g vs w hr hv => pcall_rw (pure_ok hE hn) hp hr hv⟩
  · split at h
    · rename_i d' σ2 hb
      split at h
      · rename_i hc
        obtain ⟨hu, hle, hall⟩ := hc
        cases h
        refine ⟨rfl, fun g vs w hr hv => (body_ok hE hn hb hr hv).mono ?_⟩
        rintro e w' ⟨v, g', rfl, q1, q2, q3⟩
        refine ⟨v, { g' with β := fun i => if i < σ.bx.length then g'.β i else none }, rfl, ?_, ?_, q3.fewer hu⟩
        · have q1' : RW E.P base w0 ok0 g' (fun i => σ2.bx[i]?) (fun s => s < σ2.nx) (fun s => s ∈ σ2.lv) w' := q1
          refine ⟨q1'.below, q1'.hbs, fun b o q => q1'.okb b o q, ?_, ?_, ?_, ?_, fun s s' x x' b r1 r2 r3 r4 r5 r6 => q1'.rinj s s' x x' b r1 r2 r3 r4 r5 r6, fun s x q => q1'.fresh s x q, fun b q => ⟨(q1'.prot b q).1, fun i q' => ?_, (q1'.prot b q).2.2⟩, fun v L q => q1'.iter v L q, fun b q => ⟨(q1'.kept b q).1, fun i q' => ?_, (q1'.kept b q).2.2⟩, q1'.prb⟩
          rotate_right 2
          · dsimp only at q'
            split at q'
            · exact (q1'.prot b q).2.1 i q'
            · cases q'
          · dsimp only at q'
            split at q'
            · exact (q1'.kept b q).2.1 i q'
            · cases q'
          · intro i cs b q r1
            dsimp only at q r1
            rw [List.getElem?_take] at q
            split at q
            · rename_i hlt
              rw [if_pos hlt] at r1
              have r2 := RW.box q1 i cs b q r1
              have hm : cs ∈ σ2.bx.take σ.bx.length := by
                refine List.mem_of_getElem? (i := i) ?_
                rw [List.getElem?_take, if_pos hlt]; exact q
              have hun := List.all_eq_true.1 hall cs hm
              show BoxIn w' _ b (g'.mp i) cs
              cases hmp : g'.mp i with
              | false =>
                rw [hmp] at r2
                obtain ⟨vs', sp, t, r2, r3⟩ := r2
                exact ⟨vs', sp, t, r2, r3.fewer (by simpa only [D.under] using hun)⟩
              | true =>
                rw [hmp] at r2
                obtain ⟨es, cl, r2, r3, r4, r5, r6⟩ := r2
                exact ⟨es, cl, r2, r3, r4, fun j hj => (r5 j hj).fewer (by rw [D.unders_all, List.all_eq_true] at hun; exact hun _ (List.getElem_mem hj)), r6⟩
            · cases q
          · intro i b q
            dsimp only at q
            split at q
            · rename_i hlt
              obtain ⟨r1, r2⟩ := RW.dom q1 i b q
              refine ⟨?_, r2⟩
              rw [List.getElem?_take, if_pos hlt]; exact r1
            · cases q
          · intro i j b r1 r2
            dsimp only at r1 r2
            split at r1
            · split at r2
              · exact RW.inj q1 i j b r1 r2
              · cases r2
            · cases r1
          · intro s hs
            obtain ⟨u, e, len, xs, r1, r2, r3⟩ := RW.row q1 s hs
            refine ⟨u, e, len, xs, r1, r2, fun b hb => ⟨(r3 b hb).1, fun i q => ?_⟩⟩
            dsimp only at q
            split at q
            · exact (r3 b hb).2 i q
            · cases q
        · refine ⟨q2.ok, fun i b q => ?_, q2.ow, q2.cell, q2.pr, q2.it, q2.mp, q2.kp, q2.size⟩
          show (if i < σ.bx.length then g'.β i else none) = some b
          have := (RW.dom hr i b q).1
          rw [if_pos (by
            obtain ⟨cs, hcs⟩ := Option.isSome_iff_exists.1 this
            exact (List.getElem?_eq_some_iff.1 hcs).1)]
          exact q2.β i b q
      · cases h
    · cases h

/-- a block that is nobody's -/
def FreeB (lo : Nat) (g : Gh) (lv : List Nat) (W : World) (b : Nat) : Prop := lo ≤ b ∧ b < W.heap.size ∧ (∀ i, g.β i ≠ some b) ∧ (∀ s x, s ∈ lv → g.ow s = some x → x.1.ownBlock ≠ some b) ∧ (∀ o, ¬ g.ok b o) ∧ ¬ g.pr b ∧ ¬ g.kp b
theorem RS.moves {P : Program} {g : Gh} {σ : St} {W W' : World} {lo : Nat} {F O O' : Nat → Prop} (hr : RS P base w0 ok0 g σ W) (hlo : lo ≤ W.heap.size) (hF : ∀ b, F b → b < lo) (hb : base ≤ lo) (hO : ∀ b, O b → F b ∨ FreeB lo g σ.lv W b) (hm : Moves lo O O' W W') :
    RS P base w0 ok0 g σ W' ∧ Ext g W g W' ∧ ∀ b, O' b → F b ∨ FreeB lo g σ.lv W' b := by
  -- a block that somebody knows has stayed
  have same : ∀ b, b < W.heap.size → (FreeB lo g σ.lv W b → False) → W'.heap[b]? = W.heap[b]? := by
    intro b hlt hn
    by_cases ho : O' b
    · rcases hm.new b ho with q | q
      · rcases hO b q with q | q
        · exact hm.fix b (hF b q)
        · exact (hn q).elim
      · omega
    · exact hm.block b hlt ho
  obtain ⟨r1, r2⟩ := RW.still hr (w' := W') ⟨hm.os, hm.tape, hm.output, hm.size, fun k hk => hm.fix k (by omega)⟩ hm.size
    (fun i b q => same b (RW.dom hr i b q).2.2.1 (fun q' => q'.2.2.1 i q))
    (fun s x b hs hx hb => same b (by
      obtain ⟨v, e, len, xs, q1, q2, _⟩ := RW.row hr s hs
      rw [hx] at q1
      cases q1
      exact (q2.lt b hb).2) (fun q' => q'.2.2.2.1 s x hs hx hb))
    (fun b o q => World.cell?_of_block (same b (RW.ok_lt hr q) (fun q' => q'.2.2.2.2.1 o q)))
    (fun b q => same b (RW.prot hr b q).1 (fun q' => q'.2.2.2.2.2.1 q))
    (fun b q => same b (RW.kept hr b q).1 (fun q' => q'.2.2.2.2.2.2 q))
  refine ⟨r1, r2, fun b hb' => ?_⟩
  rcases hm.new b hb' with q | q
  · exact (hO b q).imp id (fun q => ⟨q.1, Nat.lt_of_lt_of_le q.2.1 hm.size, q.2.2⟩)
  · refine .inr ⟨by omega, hm.lt b hb', fun i q' => ?_, fun s x hs hx q' => ?_, fun o q' => ?_, fun q' => ?_, fun q' => ?_⟩
    · have := (RW.dom hr i b q').2.2.1; omega
    · obtain ⟨v, e, len, xs, q1, q2, _⟩ := RW.row hr s hs
      rw [hx] at q1
      cases q1
      have := (q2.lt b q').2; omega
    · have := RW.ok_lt hr q'; omega
    · have := (RW.prot hr b q').1; omega
    · have := (RW.kept hr b q').1; omega

theorem setPs_len : ∀ (ps : List Nat) (xs : List D) (fr : List D), (setPs fr ps xs).length = fr.length
  | [], _, _ => by simp [setPs]
  | _ :: _, [], _ => by simp [setPs]
  | p :: ps, x :: xs, fr => by rw [setPs, setPs_len ps xs]; simp
theorem setPs_rel {g : Gh} {w : World} : ∀ (ps : List Nat) (xs : List D) (vs : List Value) (fr : List D) (tmps : Array Value), fr.length = tmps.size → (∀ (t : Nat) (d : D), fr[t]? = some d → ∃ v, tmps[t]? = some v ∧ val w g d v) → xs.length = vs.length → (∀ (j : Nat) (h : j < xs.length) (h' : j < vs.length), val w g xs[j] vs[j]) →
    ((ps.zip vs).foldl (fun t x => t.setIfInBounds x.1 x.2) tmps).size = fr.length ∧ ∀ (t : Nat) (d : D), (setPs fr ps xs)[t]? = some d → ∃ v, ((ps.zip vs).foldl (fun t x => t.setIfInBounds x.1 x.2) tmps)[t]? = some v ∧ val w g d v
  | [], xs, vs, fr, tmps, hl, hf, _, _ => ⟨by simpa using hl.symm, by simpa [setPs] using hf⟩
  | p :: ps, [], [], fr, tmps, hl, hf, _, _ => ⟨by simpa using hl.symm, by simpa [setPs] using hf⟩
  | p :: ps, x :: xs, v :: vs, fr, tmps, hl, hf, hlen, hv => by
    have h0 := hv 0 (by simp) (by simp)
    obtain ⟨q1, q2⟩ := setPs_rel ps xs vs (fr.set p x) (tmps.setIfInBounds p v) (by simpa using hl) (fun t d q => by
      by_cases e : p = t
      · subst e
        rw [List.getElem?_set] at q
        simp only [if_true] at q
        split at q
        · rename_i hlt
          cases q
          exact ⟨v, by rw [Array.getElem?_setIfInBounds]; simp only [if_true]; rw [if_pos (by omega)], h0⟩
        · cases q
      · rw [List.getElem?_set_ne e] at q
        obtain ⟨u, h1, h2⟩ := hf t d q
        exact ⟨u, by rw [Array.getElem?_setIfInBounds_ne e]; exact h1, h2⟩) (by simpa using hlen) (fun j h h' => by
        have := hv (j + 1) (by simpa using h) (by simpa using h')
        simpa using this)
    exact ⟨by simpa using q1, by simpa [setPs] using q2⟩

def Ex.code : Ex → Code
  | .normal => .skip
  | .ret => .ret
  | .exit id => .exit id

set_option maxHeartbeats 1000000 in
/-- a range over a function that yields data -/
theorem range_wp {n : Nat} (hn : CodeOk E n) {f : Operand} {ps : Array Tmp} {asg body : Code} (ha : chkCode asg = true) (hb : chkCode body = true) (hra : hasRange asg = false) (hrb : hasRange body = false) {σ σ' : St} {e : Ex} {L : List (List D)} (hL : ev σ.fr f = .it L) (hft : ∃ t, f = .tmp t)
    (h : roundsD (exec E n) σ.fr ps.toList asg body L σ = some (e, σ')) {m : Nat} {Q : Exit → Act → World → Prop} {g : Gh} {a : Act} {w : World} (hrel : Rel E.P base w0 ok0 g σ a w)
    (hQ : ∀ a' w' g', Rel E.P base w0 ok0 g' σ' a' w' → Ext g w g' w' → Marks w.heap.size g' w' a.defers a'.defers → Q e.to a' w') : (Code.rangeFunc f ps asg body).wpIn (fence none) m E.P Q a w := by
  obtain ⟨t, rfl⟩ := hft
  have hv := ev_val hrel.fr hrel.len (.tmp t) (.inr ⟨t, rfl⟩)
  rw [hL] at hv
  obtain ⟨cs, hR, hpk⟩ := hv
  cases hR with
  | it _ gf lb hit =>
  have hev : a.eval (.tmp t) = .func (.func gf) #[] lb := hpk
  obtain ⟨gf', lb', F, e1, hcall, hF, hIter⟩ := RW.iter hrel.rs _ _ hit
  cases e1
  have hbs : base ≤ w.heap.size := RW.hbs hrel.rs
  have hFlt : ∀ b, F b → b < w.heap.size := fun b q => (hF b q).2
  have hFpr : ∀ {gp : Gh} {W : World}, Ext g w gp W → ∀ b, F b → gp.pr b := fun he b q => (he.pr b (hF b q).1).1
  -- the blocks that the round must keep become kept; what is handed over becomes known
  have enter : ∀ {gp : Gh} {σp : St} {W : World} {O X : Nat → Prop}, RS E.P base w0 ok0 gp σp W → Ext g w gp W → (∀ b, O b ∨ X b → F b ∨ FreeB w.heap.size gp σp.lv W b) → (∀ b, X b → w.heap.size ≤ b ∧ ¬ O b) →
      RS E.P base w0 ok0 { gp with ok := fun b o => gp.ok b o ∨ X b, kp := fun b => gp.kp b ∨ O b } σp W ∧ Ext gp W { gp with ok := fun b o => gp.ok b o ∨ X b, kp := fun b => gp.kp b ∨ O b } W := by
    intro gp σp W O X hr he hO hX
    have hXf : ∀ b, X b → FreeB w.heap.size gp σp.lv W b := fun b q => (hO b (.inr q)).resolve_left (fun q' => by have h1 := hFlt b q'; have h2 := (hX b q).1; omega)
    refine ⟨RW.turn hr (fun _ _ q => .inl q) (fun b o q => ?_) (fun b q => ?_), ⟨fun _ _ q => .inl q, fun _ _ q => q, fun _ _ q => q, fun _ _ _ => rfl, fun _ q => ⟨q, rfl⟩, fun _ _ q => q, fun _ _ _ => rfl, fun b q => ⟨.inl q, rfl, fun o q' => q'.resolve_right (fun q'' => (hXf b q'').2.2.2.2.2.2 q), fun q' => q'⟩, Nat.le_refl _⟩⟩
    · rcases q with q | q
      · exact .inl q
      · have := hXf b q
        exact .inr ⟨by have := this.1; omega, this.2.1, this.2.2.1, this.2.2.2.1⟩
    · rcases q with q | q
      · exact RW.kept hr b q
      · rcases hO b (.inl q) with q' | q'
        · exact RW.prot hr b (hFpr he b q')
        · exact ⟨q'.2.1, q'.2.2.1, q'.2.2.2.1⟩
  -- behind a part of the round
  have leave : ∀ {gp g' : Gh} {σp σ1 : St} {W W' : World} {O X : Nat → Prop}, Ext g w gp W → (∀ b, O b ∨ X b → F b ∨ FreeB w.heap.size gp σp.lv W b) → (∀ b, X b → w.heap.size ≤ b ∧ ¬ O b) → RS E.P base w0 ok0 g' σ1 W' →
      Ext { gp with ok := fun b o => gp.ok b o ∨ X b, kp := fun b => gp.kp b ∨ O b } W g' W' →
      KeepsO O W W' ∧ RS E.P base w0 ok0 { g' with kp := fun b => g'.kp b ∧ ¬ (O b ∧ ¬ F b) } σ1 W' ∧ Ext g w { g' with kp := fun b => g'.kp b ∧ ¬ (O b ∧ ¬ F b) } W' ∧ Sub g' { g' with kp := fun b => g'.kp b ∧ ¬ (O b ∧ ¬ F b) } ∧ ∀ b, O b → F b ∨ FreeB w.heap.size { g' with kp := fun b => g'.kp b ∧ ¬ (O b ∧ ¬ F b) } σ1.lv W' b := by
    intro gp g' σp σ1 W W' O X he hO hX hr' he'
    have hsub : Sub g' { g' with kp := fun b => g'.kp b ∧ ¬ (O b ∧ ¬ F b) } := ⟨fun _ _ q => q, fun _ _ q => q, fun _ _ q => q, fun _ q => q, fun _ _ q => q, fun _ _ _ => rfl⟩
    refine ⟨⟨he'.size, fun b q => (he'.kp b (.inr q)).2.1⟩, RW.turn hr' (ok' := g'.ok) (fun _ _ q => q) (fun _ _ q => .inl q) (fun b q => RW.kept hr' b q.1), ?_, hsub, fun b q => ?_⟩
    · refine ⟨fun b o q => he'.ok b o (.inl (he.ok b o q)), fun i b q => he'.β i b (he.β i b q), fun s x q => he'.ow s x (he.ow s x q), fun b o q => (he'.cell b o (.inl (he.ok b o q))).trans (he.cell b o q), fun b q => ⟨(he'.pr b (he.pr b q).1).1, (he'.pr b (he.pr b q).1).2.trans (he.pr b q).2⟩, fun v L q => he'.it v L (he.it v L q), fun i b q => (he'.mp i b (he.β i b q)).trans (he.mp i b q), fun b q => ?_, Nat.le_trans he.size he'.size⟩
      obtain ⟨x1, x2, x3, x4⟩ := he.kp b q
      obtain ⟨y1, y2, y3, y4⟩ := he'.kp b (.inl x1)
      refine ⟨⟨y1, fun q' => ?_⟩, y2.trans x2, fun o q' => ?_, fun q' => x4 (y4 q')⟩
      · rcases hO b (.inl q'.1) with r | r
        · exact q'.2 r
        · exact r.2.2.2.2.2.2 x1
      · rcases y3 o q' with r | r
        · exact x3 o r
        · rcases hO b (.inr r) with r' | r'
          · have h1 := hFlt b r'; have h2 := (hX b r).1; omega
          · exact absurd x1 r'.2.2.2.2.2.2
    · rcases hO b (.inl q) with r | r
      · exact .inl r
      · by_cases hf : F b
        · exact .inl hf
        · obtain ⟨y1, y2, y3, y4⟩ := he'.kp b (.inr q)
          refine .inr ⟨r.1, Nat.lt_of_lt_of_le r.2.1 he'.size, (RW.kept hr' b y1).2.1, (RW.kept hr' b y1).2.2, fun o q' => ?_, fun q' => r.2.2.2.2.2.1 (y4 q'), fun q' => q'.2 ⟨q, hf⟩⟩
          rcases y3 o q' with q'' | q''
          · exact r.2.2.2.2.1 o q''
          · exact (hX b q'').2 q
  let I : List (List D) → (Nat → Prop) → World → Prop := fun pre O W => ∃ rest σp gp, L = pre ++ rest ∧ roundsD (exec E n) σ.fr ps.toList asg body rest σp = some (e, σ') ∧ RS E.P base w0 ok0 gp σp W ∧ Ext g w gp W ∧ ∀ b, O b → F b ∨ FreeB w.heap.size gp σp.lv W b
  let Ix : Code → List (List D) → (Nat → Prop) → World → Prop := fun c _ O W => ∃ gp, c = e.code ∧ e ≠ .normal ∧ RS E.P base w0 ok0 gp σ' W ∧ σ'.fr = σ.fr ∧ Ext g w gp W ∧ ∀ b, O b → F b ∨ FreeB w.heap.size gp σ'.lv W b
  let Ax : List (List D) → List D → Array Value → (Nat → Prop) → Act → World → Prop := fun pre x _ O a' W => ∃ rest σ1 gp, L = pre ++ x :: rest ∧ (match exec E n body σ1 with
      | some (.normal, σ2) => roundsD (exec E n) σ.fr ps.toList asg body rest σ2
      | some (e, σ2) => some (e, { σ2 with fr := σ.fr })
      | none => none) = some (e, σ') ∧ Rel E.P base w0 ok0 gp σ1 a' W ∧ Ext g w gp W ∧ ∀ b, O b → F b ∨ FreeB w.heap.size gp σ1.lv W b
  have rest_of : ∀ {pre rest : List (List D)} {x : List D}, (pre ++ [x]) <+: L → L = pre ++ rest → ∃ r, rest = x :: r := by
    intro pre rest x ⟨r, hr⟩ hl
    rw [hl, zaa] at hr
    exact ⟨r, by simpa using (List.append_cancel_left hr).symm⟩
  refine wpIn_rangeFunc_O (encs := encD) (L := L) (O₀ := F) hev hcall hFlt hIter I Ix ?_ ?_ ?_ ?_ ⟨L, σ, g, rfl, h, hrel.rs, Ext.refl _ _, fun b q => .inl q⟩ ?_ Ax ?_ ?_ ?_ ?_ ?_ ?_
  · rintro pre O O' W W' ⟨rest, σp, gp, q1, q2, q3, q4, q5⟩ hm
    obtain ⟨r1, r2, r3⟩ := RS.moves q3 q4.size hFlt hbs q5 hm
    exact ⟨rest, σp, gp, q1, q2, r1, q4.trans r2, r3⟩
  · rintro c pre O O' W W' ⟨gp, q1, q2, q3, q6, q4, q5⟩ hm
    obtain ⟨r1, r2, r3⟩ := RS.moves q3 q4.size hFlt hbs q5 hm
    exact ⟨gp, q1, q2, r1, q6, q4.trans r2, r3⟩
  · rintro pre O W ⟨rest, σp, gp, q1, q2, q3, q4, q5⟩ b hb'
    rcases q5 b hb' with q | q
    · exact Nat.lt_of_lt_of_le (hFlt b q) q4.size
    · exact q.2.1
  · rintro c pre O W ⟨gp, q1, q2, q3, q6, q4, q5⟩ b hb'
    rcases q5 b hb' with q | q
    · exact Nat.lt_of_lt_of_le (hFlt b q) q4.size
    · exact q.2.1
  · rintro pre x O X W args hpre ⟨rest, σp, gp, q1, q2, q3, q4, q5⟩ henc
    obtain ⟨r, rfl⟩ := rest_of hpre q1
    unfold roundsD at q2
    split at q2
    · rename_i hlx
      have := henc.2.1
      simp only [Array.length_toList] at this hlx
      omega
    · cases q2
  · rintro pre x args a' _ O O' W W' ⟨rest, σ1, gp, q1, q2, q3, q4, q5⟩ hm
    obtain ⟨r1, r2, r3⟩ := RS.moves q3.rs q4.size hFlt hbs q5 hm
    exact ⟨rest, σ1, gp, q1, q2, ⟨r1, q3.len, fun t d q => let ⟨v, s1, s2⟩ := q3.fr t d q; ⟨v, s1, s2.ext r2⟩⟩, q4.trans r2, r3⟩
  · rintro pre x args O a' W ⟨rest, σ1, gp, q1, q2, q3, q4, q5⟩ b hb'
    rcases q5 b hb' with q | q
    · exact Nat.lt_of_lt_of_le (hFlt b q) q4.size
    · exact q.2.1
  · rintro l pre x args O X W K hpre ⟨rest, σp, gp, q1, q2, q3, q4, q5⟩ hX henc hK
    obtain ⟨r, rfl⟩ := rest_of hpre q1
    unfold roundsD at q2
    split at q2
    · rename_i hlx
      split at q2
      · rename_i σ1 hasg
        obtain ⟨s1, s2⟩ := enter q3 q4 q5 hX
        have henc2 := henc.2
        have hsub : Sub (okGh fun b _ => X b) { gp with ok := fun b o => gp.ok b o ∨ X b, kp := fun b => gp.kp b ∨ O b } := ⟨fun _ _ q => .inr q, fun _ _ q => (by cases q), fun _ _ q => (by cases q), fun _ q => q.elim, fun _ _ q => q.elim, fun _ _ q => (by cases q)⟩
        obtain ⟨t1, t2⟩ := setPs_rel (w := W) (g := { gp with ok := fun b o => gp.ok b o ∨ X b, kp := fun b => gp.kp b ∨ O b }) ps.toList x args.toList σ.fr a.tmps hrel.len (fun t d q => let ⟨v, r1, r2⟩ := hrel.fr t d q; ⟨v, r1, (r2.ext q4).ext s2⟩) henc2.1 (fun j h h' => (henc2.2 j h h').sub hsub)
        have hfold : (ps.zip args).foldl (fun t (p, v) => t.setIfInBounds p v) a.tmps = (ps.toList.zip args.toList).foldl (fun t x => t.setIfInBounds x.1 x.2) a.tmps := by
          rw [← Array.foldl_toList, Array.toList_zip]
        rw [hfold]
        refine hn asg ha _ _ _ hasg base w0 ok0 (some l) m _ _ _ W (.inr hra) ⟨s1, by rw [setPs_len]; exact t1.symm, t2⟩ (fun a' w' g' u1 u2 u3 => ?_)
        obtain ⟨v1, v2, v3, v4, v5⟩ := leave q4 q5 hX u1.rs u2
        exact hK a' w' v1 ⟨r, σ1, _, q1, q2, ⟨v2, u1.len, fun t d q => let ⟨v, z1, z2⟩ := u1.fr t d q; ⟨v, z1, z2.sub v4⟩⟩, v3, v5⟩
      · cases q2
    · cases q2
  · rintro l pre x args O a' W hpre ⟨rest, σ1, gp, q1, q2, q3, q4, q5⟩
    have hO' : ∀ b, O b ∨ False → F b ∨ FreeB w.heap.size gp σ1.lv W b := fun b q => q5 b (q.resolve_right id)
    obtain ⟨s1, s2⟩ := enter (O := O) (X := fun _ => False) q3.rs q4 hO' (fun b q => q.elim)
    have hL2 : L = (pre ++ [x]) ++ rest := by rw [q1]; simp
    have key : ∀ e1 σ2, exec E n body σ1 = some (e1, σ2) → (∀ a2 w2 g2, RS E.P base w0 ok0 g2 σ2 w2 → Ext g w g2 w2 → KeepsO O W w2 → (∀ b, O b → F b ∨ FreeB w.heap.size g2 σ2.lv w2 b) → postO I Ix (pre ++ [x]) O W e1.to a2 w2) → body.wpIn (Fence.wide.inRound l) m E.P (postO I Ix (pre ++ [x]) O W) a' W := by
      intro e1 σ2 hex hpost
      refine hn body hb _ _ _ hex base w0 ok0 (some l) m _ _ a' W (.inr hrb) ⟨s1, q3.len, fun t d q => let ⟨v, z1, z2⟩ := q3.fr t d q; ⟨v, z1, z2.ext s2⟩⟩ (fun a2 w2 g2 u1 u2 u3 => ?_)
      obtain ⟨v1, v2, v3, v4, v5⟩ := leave (X := fun _ => False) q4 hO' (fun b q => q.elim) u1.rs u2
      exact hpost a2 w2 _ v2 v3 v1 v5
    split at q2
    · rename_i σ2 hex
      refine key _ _ hex (fun a2 w2 g2 u1 u2 u3 u4 => ⟨u3, rest, σ2, g2, hL2, q2, u1, u2, u4⟩)
    · rename_i e1 σ2 hne hex
      cases q2
      refine key _ _ hex (fun a2 w2 g2 u1 u2 u3 u4 => ?_)
      cases e with
      | normal => exact (hne rfl).elim
      | ret => exact ⟨u3, g2, rfl, by simp, u1, rfl, u2, u4⟩
      | exit id => exact ⟨u3, g2, rfl, by simp, u1, rfl, u2, u4⟩
    · cases q2
  · rintro D O W hOD hD ⟨rest, σp, gp, q1, q2, q3, q4, q5⟩ hdef
    have hrest : rest = [] := by
      have := congrArg List.length q1
      simp at this; exact this
    subst hrest
    unfold roundsD at q2
    cases q2
    have hfree : FreeB w.heap.size gp σp.lv W D := (q5 D hOD).resolve_left (fun q => by have := hFlt D q; omega)
    have hsub : Sub gp { gp with kp := fun b => gp.kp b ∨ b = D } := ⟨fun _ _ q => q, fun _ _ q => q, fun _ _ q => q, fun _ q => q, fun _ _ q => q, fun _ _ _ => rfl⟩
    have hext : Ext gp W { gp with kp := fun b => gp.kp b ∨ b = D } W := ⟨fun _ _ q => q, fun _ _ q => q, fun _ _ q => q, fun _ _ _ => rfl, fun _ q => ⟨q, rfl⟩, fun _ _ q => q, fun _ _ _ => rfl, fun b q => ⟨.inl q, rfl, fun _ q => q, fun q => q⟩, Nat.le_refl _⟩
    refine hQ _ W { gp with kp := fun b => gp.kp b ∨ b = D } ⟨RW.turn q3 (ok' := gp.ok) (fun _ _ q => q) (fun _ _ q => .inl q) (fun b q => ?_), hrel.len, fun t d q => let ⟨v, z1, z2⟩ := hrel.fr t d q; ⟨v, z1, (z2.ext q4).ext hext⟩⟩ (q4.trans hext) ⟨[D], rfl, by simp, fun D' hD' => ?_⟩
    · rcases q with q | q
      · exact RW.kept q3 b q
      · subst q; exact ⟨hfree.2.1, hfree.2.2.1, hfree.2.2.2.1⟩
    · obtain rfl : D' = D := by simpa using hD'
      exact ⟨hD, .inr rfl, hfree.2.2.2.2.2.1, hdef⟩
  · rintro D c pre O W hOD hD hpre ⟨gp, q1, q2, q3, q6, q4, q5⟩ hdef
    have hfree : FreeB w.heap.size gp σ'.lv W D := (q5 D hOD).resolve_left (fun q => by have := hFlt D q; omega)
    have hext : Ext gp W { gp with kp := fun b => gp.kp b ∨ b = D } W := ⟨fun _ _ q => q, fun _ _ q => q, fun _ _ q => q, fun _ _ _ => rfl, fun _ q => ⟨q, rfl⟩, fun _ _ q => q, fun _ _ _ => rfl, fun b q => ⟨.inl q, rfl, fun _ q => q, fun q => q⟩, Nat.le_refl _⟩
    have fin : Q e.to { a with defers := { target := .collected D, args := #[] } :: a.defers } W := by
      refine hQ _ W { gp with kp := fun b => gp.kp b ∨ b = D } ⟨RW.turn q3 (ok' := gp.ok) (fun _ _ q => q) (fun _ _ q => .inl q) (fun b q => ?_), by rw [q6]; exact hrel.len, fun t d q => by rw [q6] at q; exact (let ⟨v, z1, z2⟩ := hrel.fr t d q; ⟨v, z1, (z2.ext q4).ext hext⟩)⟩ (q4.trans hext) ⟨[D], rfl, by simp, fun D' hD' => ?_⟩
      · rcases q with q | q
        · exact RW.kept q3 b q
        · subst q; exact ⟨hfree.2.1, hfree.2.2.1, hfree.2.2.2.1⟩
      · obtain rfl : D' = D := by simpa using hD'
        exact ⟨hD, .inr rfl, hfree.2.2.2.2.2.1, hdef⟩
    subst q1
    cases e with
    | normal => exact absurd rfl q2
    | ret => exact wpIn_ret fin
    | exit id => exact wpIn_exit fin

theorem code_ok (hE : E.Ok) : ∀ n, CodeOk E n
  | 0 => by intro code _ σ e σ' h; cases h
  | n + 1 => by
    have hn := code_ok hE n
    intro code hchk σ e σ' h base w0 ok0 ro m Q g a w hro hrel hQ
    unfold exec at h
    split at h
    · cases h; exact wpIn_skip (hQ a w g hrel (Ext.refl _ _) (.of_eq rfl))
    · rename_i id ops draw
      split at h
      · rename_i hd
        subst hd
        simp only [chkCode, if_true] at hchk
        split at h
        · rename_i σ1 h1
          rw [Option.map_eq_some_iff] at h
          obtain ⟨σ2, h2, h3⟩ := h
          cases h3
          exact draw_wp hE.mixed (pure_ok hE hn) (call_ok hE hn) hchk (cut_le ops) hrel h1 h2 (fun a' w' g' q1 q2 q3 => hQ a' w' g' q1 q2 (.of_eq q3))
        · cases h
      · rename_i hd
        have hd' : draw = false := by simpa using hd
        subst hd'
        simp only [chkCode, zft, if_false] at hchk
        rw [Option.map_eq_some_iff] at h
        obtain ⟨σ2, h2, h3⟩ := h
        cases h3
        refine wpIn_region_list (list_wp (call_ok hE hn) hrel ?_ h2 (fun a' w' g' q1 q2 q3 => hQ a' w' g' q1 q2 (.of_eq q3)))
        rw [List.all_eq_true]
        rw [Array.all_eq_true_iff_forall_mem] at hchk
        exact fun o ho => hchk o (by simpa using ho)
    · rename_i x y
      simp only [chkCode, zat] at hchk
      have hro1 : ro = none ∨ hasRange x = false := hro.imp id (fun q => by simp only [hasRange, zof] at q; exact q.1)
      have hro2 : ro = none ∨ hasRange y = false := hro.imp id (fun q => by simp only [hasRange, zof] at q; exact q.2)
      refine wpIn_seq ?_
      split at h
      · rename_i σ1 h1
        refine hn x hchk.1 _ _ _ h1 base w0 ok0 ro m _ g a w hro1 hrel (fun a' w' g' q1 q2 q3 => ?_)
        exact hn y hchk.2 _ _ _ h base w0 ok0 ro m _ g' a' w' hro2 q1 (fun a2 w2 g2 r1 r2 r3 => hQ a2 w2 g2 r1 (q2.trans r2) (q3.trans r2 q2.size r3))
      · rename_i hne
        refine hn x hchk.1 _ _ _ h base w0 ok0 ro m _ g a w hro1 hrel (fun a' w' g' q1 q2 q3 => ?_)
        cases e with
        | normal => exact absurd h (hne σ')
        | ret => exact hQ a' w' g' q1 q2 q3
        | exit id => exact hQ a' w' g' q1 q2 q3
    · rename_i c x y
      simp only [chkCode, zat] at hchk
      have hro1 : ro = none ∨ hasRange x = false := hro.imp id (fun q => by simp only [hasRange, zof] at q; exact q.1)
      have hro2 : ro = none ∨ hasRange y = false := hro.imp id (fun q => by simp only [hasRange, zof] at q; exact q.2)
      have hc : val w g (ev σ.fr c) (a.eval c) := by
        refine ev_val hrel.fr hrel.len c ?_
        cases c <;> first | exact .inr ⟨_, rfl⟩ | (simp at hchk)
      split at h
      · rename_i hb
        rw [hb] at hc
        exact wpIn_cond_true (val_bool hc) (hn x hchk.1.2 _ _ _ h base w0 ok0 ro m _ g a w hro1 hrel hQ)
      · rename_i hb
        rw [hb] at hc
        exact wpIn_cond_false (val_bool hc) (hn y hchk.2 _ _ _ h base w0 ok0 ro m _ g a w hro2 hrel hQ)
      · cases h
    · rename_i id x
      simp only [chkCode] at hchk
      refine wpIn_block ?_
      split at h
      · rename_i j σ1 h1
        cases h
        refine hn x hchk _ _ _ h1 base w0 ok0 ro m _ g a w hro hrel (fun a' w' g' q1 q2 q3 => ?_)
        have := hQ a' w' g' q1 q2 q3
        show if j = id then Q .normal a' w' else Q (.exit j) a' w'
        split
        · rename_i hj; rw [if_pos hj] at this; exact this
        · rename_i hj; rw [if_neg hj] at this; exact this
      · rename_i hne
        refine hn x hchk _ _ _ h base w0 ok0 ro m _ g a w hro hrel (fun a' w' g' q1 q2 q3 => ?_)
        cases e with
        | normal => exact hQ a' w' g' q1 q2 q3
        | ret => exact hQ a' w' g' q1 q2 q3
        | exit j => exact absurd h (hne j σ')
    · rename_i x
      simp only [chkCode] at hchk
      -- as many rounds as the fuel allows
      have rounds : ∀ (k : Nat), k ≤ n → ∀ (σ : St) (e : Ex) (σ' : St), exec E k (.loop x) σ = some (e, σ') → ∀ (g : Gh) (a : Act) (w : World), Rel E.P base w0 ok0 g σ a w →
          (∀ a' w' g', Rel E.P base w0 ok0 g' σ' a' w' → Ext g w g' w' → Marks w.heap.size g' w' a.defers a'.defers → Q e.to a' w') → Code.roundsIn (fence ro) m E.P x Q k a w := by
        intro k
        induction k with
        | zero => intro _ σ e σ' h; cases h
        | succ k ih =>
          intro hk σ e σ' h g a w hrel hQ
          have hnk := code_ok hE k
          replace h : (match exec E k x σ with
            | some (.normal, σ1) => exec E k (.loop x) σ1
            | r => r) = some (e, σ') := h
          show x.wpIn (fence ro) m E.P (Exit.then (Code.roundsIn (fence ro) m E.P x Q k) Q) a w
          split at h
          · rename_i σ1 h1
            refine hnk x hchk _ _ _ h1 base w0 ok0 ro m _ g a w hro hrel (fun a' w' g' q1 q2 q3 => ?_)
            exact ih (by omega) σ1 e σ' h g' a' w' q1 (fun a2 w2 g2 r1 r2 r3 => hQ a2 w2 g2 r1 (q2.trans r2) (q3.trans r2 q2.size r3))
          · rename_i hne
            refine hnk x hchk _ _ _ h base w0 ok0 ro m _ g a w hro hrel (fun a' w' g' q1 q2 q3 => ?_)
            cases e with
            | normal => exact absurd h (hne σ')
            | ret => exact hQ a' w' g' q1 q2 q3
            | exit id => exact hQ a' w' g' q1 q2 q3
      refine wpIn_loop_rounds (n + 1) ?_
      show x.wpIn (fence ro) m E.P (Exit.then (Code.roundsIn (fence ro) m E.P x Q n) Q) a w
      split at h
      · rename_i σ1 h1
        refine hn x hchk _ _ _ h1 base w0 ok0 ro m _ g a w hro hrel (fun a' w' g' q1 q2 q3 => ?_)
        exact rounds n (Nat.le_refl _) σ1 e σ' h g' a' w' q1 (fun a2 w2 g2 r1 r2 r3 => hQ a2 w2 g2 r1 (q2.trans r2) (q3.trans r2 q2.size r3))
      · rename_i hne
        refine hn x hchk _ _ _ h base w0 ok0 ro m _ g a w hro hrel (fun a' w' g' q1 q2 q3 => ?_)
        cases e with
        | normal => exact absurd h (hne σ')
        | ret => exact hQ a' w' g' q1 q2 q3
        | exit id => exact hQ a' w' g' q1 q2 q3
    · rename_i f ps asg body
      simp only [chkCode, zat, znt] at hchk
      obtain ⟨⟨⟨⟨k1, k2⟩, k3⟩, k4⟩, k5⟩ := hchk
      have hro0 : ro = none := hro.resolve_right (by simp [hasRange])
      subst hro0
      split at h
      · rename_i L hL
        refine range_wp hn k2 k3 k4 k5 hL ?_ h hrel hQ
        cases f <;> first | exact ⟨_, rfl⟩ | cases k1
      · cases h
    · cases h; exact wpIn_exit (hQ a w g hrel (Ext.refl _ _) (.of_eq rfl))
    · cases h; exact wpIn_ret (hQ a w g hrel (Ext.refl _ _) (.of_eq rfl))
    · cases h
  termination_by n => n

/-- a run over data is a call in memory -/
theorem run_sound (hE : E.Ok) {n k : Nat} {args : List D} {d : D} (h : pureWith E (exec E n) k args = some d) : PContract E.P k args d := pure_ok hE (code_ok hE n) k args d h
end

end Go.Proofs.Ytmglacjcefajlaa

/- The machine over data without fuel: equations. Over any program. -/
namespace Go.Proofs.Ytmglacjcefajlaa
open Go.RowKit

def ExLe (ex ex' : Code → St → Option (Ex × St)) : Prop := ∀ c σ r, ex c σ = some r → ex' c σ = some r
def CaLe (ca ca' : Nat → List D → St → Option (D × St)) : Prop := ∀ k a σ r, ca k a σ = some r → ca' k a σ = some r

section
variable {E : Env} {ex ex' : Code → St → Option (Ex × St)} {P : Program} {ca ca' : Nat → List D → St → Option (D × St)}

theorem body_mono (h : ExLe ex ex') {k : Nat} {args : List D} {bx : List (List D)} {nx : Nat} {lv : List Nat} {r : D × St} (hb : bodyWith E ex k args bx nx lv = some r) : bodyWith E ex' k args bx nx lv = some r := by
  unfold bodyWith at hb ⊢
  split at hb
  · rename_i hf
    rw [if_pos hf]
    split at hb
    · rename_i fn hk
      split at hb
      · rename_i body hbd
        try simp only [hk, hbd]
        split at hb
        · rename_i σ he; rw [h _ _ _ he]; exact hb
        · rename_i σ he; rw [h _ _ _ he]; exact hb
        · cases hb
      · cases hb
    · cases hb
  · cases hb
theorem pure_mono (h : ExLe ex ex') {k : Nat} {args : List D} {d : D} (hb : pureWith E ex k args = some d) : pureWith E ex' k args = some d := by
  unfold pureWith at hb ⊢
  split at hb
  · rename_i hp
    rw [if_pos hp]
    split at hb
    · rename_i d' ho; exact hb
    · rename_i ho
      split at hb
      · rename_i d' σ' hbo
        rw [body_mono h hbo]; exact hb
      · cases hb
  · cases hb
theorem call_mono (h : ExLe ex ex') : CaLe (callWith E ex) (callWith E ex') := by
  intro k a σ r hb
  unfold callWith at hb ⊢
  split at hb
  · rename_i hp
    rw [if_pos hp]
    rw [Option.map_eq_some_iff] at hb ⊢
    obtain ⟨d, h1, h2⟩ := hb
    exact ⟨d, pure_mono h h1, h2⟩
  · rename_i hp
    rw [if_neg hp]
    split at hb
    · rename_i d σ' hbo; rw [body_mono h hbo]; exact hb
    · cases hb
theorem eff_mono (h : CaLe ca ca') {σ : St} {o : Oper} {r : D × St} (hb : aeff P ca σ o = some r) : aeff P ca' σ o = some r := by
  unfold aeff at hb ⊢
  split at hb <;> first | exact hb | skip
  rename_i c hc
  split at hb <;> first | exact hb | skip
  rename_i f hf
  split at hb
  · split at hb
    · rename_i hk; rw [if_pos hk]; exact h _ _ _ _ hb
    · cases hb
  · cases hb
theorem step_mono (h : CaLe ca ca') {ops : List Oper} {σ σ' : St} {o : Oper} (hb : astep P ca ops σ o = some σ') : astep P ca' ops σ o = some σ' := by
  unfold astep at hb ⊢
  split at hb
  · rename_i hw
    rw [if_pos hw]
    rw [Option.map_eq_some_iff] at hb ⊢
    obtain ⟨x, h1, h2⟩ := hb
    exact ⟨x, eff_mono h h1, h2⟩
  · rename_i hw; rw [if_neg hw]; exact hb
theorem ops_mono (h : CaLe ca ca') {ops : List Oper} : ∀ {l : List Oper} {σ σ' : St}, aops P ca ops l σ = some σ' → aops P ca' ops l σ = some σ'
  | [], _, _, hb => hb
  | o :: r, σ, σ', hb => by
    unfold aops at hb ⊢
    split at hb
    · rename_i σ1 h1; rw [step_mono h h1]; exact ops_mono h hb
    · cases hb
theorem pcall_le {pc pc' : Nat → List D → Option D} (h : ∀ k a d, pc k a = some d → pc' k a = some d) : CaLe (pcall pc) (pcall pc') := by
  intro k a σ r hb
  unfold pcall at hb ⊢
  rw [Option.map_eq_some_iff] at hb ⊢
  obtain ⟨d, h1, h2⟩ := hb
  exact ⟨d, h _ _ _ h1, h2⟩

theorem rounds_mono {ex ex' : Code → St → Option (Ex × St)} (h : ExLe ex ex') {fr : List D} {ps : List Nat} {asg body : Code} : ∀ {L : List (List D)} {σ : St} {r : Ex × St}, roundsD ex fr ps asg body L σ = some r → roundsD ex' fr ps asg body L σ = some r
  | [], _, _, q => q
  | x :: L, σ, r, q => by
    unfold roundsD at q ⊢
    split at q
    · rename_i hl
      rw [if_pos hl]
      split at q
      · rename_i σ1 h1
        rw [h _ _ _ h1]
        dsimp only
        split at q
        · rename_i σ2 h2
          rw [h _ _ _ h2]
          exact rounds_mono h q
        · rename_i e σ2 hne h2
          rw [h _ _ _ h2]
          cases e <;> first | exact (hne rfl).elim | exact q
        · cases q
      · cases q
    · cases q
theorem exec_succ (E : Env) : ∀ n, ExLe (exec E n) (exec E (n + 1))
  | 0 => by intro c σ r h; cases h
  | n + 1 => by
    have ih := exec_succ E n
    intro code σ r h
    cases code with
    | skip => exact h
    | region id ops draw =>
      have h' : (if draw = true then (match aops E.P (pcall (pureWith E (exec E n))) ops.toList (ops.toList.take (cutOf ops)) σ with
        | some σ1 => (aops E.P (callWith E (exec E n)) ops.toList (ops.toList.drop (cutOf ops)) σ1).map fun σ2 => (Ex.normal, σ2)
        | none => none) else (aops E.P (callWith E (exec E n)) ops.toList ops.toList σ).map fun σ2 => (Ex.normal, σ2)) = some r := h
      show (if draw = true then (match aops E.P (pcall (pureWith E (exec E (n + 1)))) ops.toList (ops.toList.take (cutOf ops)) σ with
        | some σ1 => (aops E.P (callWith E (exec E (n + 1))) ops.toList (ops.toList.drop (cutOf ops)) σ1).map fun σ2 => (Ex.normal, σ2)
        | none => none) else (aops E.P (callWith E (exec E (n + 1))) ops.toList ops.toList σ).map fun σ2 => (Ex.normal, σ2)) = some r
      cases draw with
      | true =>
        simp only [if_true] at h' ⊢
        cases h1 : aops E.P (pcall (pureWith E (exec E n))) ops.toList (ops.toList.take (cutOf ops)) σ with
        | none => rw [h1] at h'; cases h'
        | some σ1 =>
          rw [h1] at h'
          rw [ops_mono (pcall_le (pc' := pureWith E (exec E (n + 1))) fun k a d q => pure_mono ih q) h1]
          have h2 : (aops E.P (callWith E (exec E n)) ops.toList (ops.toList.drop (cutOf ops)) σ1).map (fun σ2 => (Ex.normal, σ2)) = some r := h'
          rw [Option.map_eq_some_iff] at h2
          obtain ⟨σ2, q1, q2⟩ := h2
          show (aops E.P (callWith E (exec E (n + 1))) ops.toList (ops.toList.drop (cutOf ops)) σ1).map (fun σ2 => (Ex.normal, σ2)) = some r
          rw [ops_mono (call_mono ih) q1, zmo, q2]
      | false =>
        simp only [zft, if_false] at h' ⊢
        rw [Option.map_eq_some_iff] at h'
        obtain ⟨σ2, q1, q2⟩ := h'
        rw [ops_mono (call_mono ih) q1, zmo, q2]
    | seq a b =>
      have h' : (match exec E n a σ with | some (.normal, σ1) => exec E n b σ1 | r => r) = some r := h
      show (match exec E (n + 1) a σ with | some (.normal, σ1) => exec E (n + 1) b σ1 | r => r) = some r
      cases ha : exec E n a σ with
      | none => rw [ha] at h'; cases h'
      | some x =>
        rw [ih _ _ _ ha]
        rw [ha] at h'
        obtain ⟨e, σ1⟩ := x
        cases e <;> first | exact ih _ _ _ h' | exact h'
    | cond c a b =>
      have h' : (match ev σ.fr c with | .bool true => exec E n a σ | .bool false => exec E n b σ | _ => none) = some r := h
      show (match ev σ.fr c with | .bool true => exec E (n + 1) a σ | .bool false => exec E (n + 1) b σ | _ => none) = some r
      split at h'
      · exact ih _ _ _ h'
      · exact ih _ _ _ h'
      · cases h'
    | block id body =>
      have h' : (match exec E n body σ with | some (.exit j, σ1) => some (if j = id then .normal else .exit j, σ1) | r => r) = some r := h
      show (match exec E (n + 1) body σ with | some (.exit j, σ1) => some (if j = id then .normal else .exit j, σ1) | r => r) = some r
      cases ha : exec E n body σ with
      | none => rw [ha] at h'; cases h'
      | some x => rw [ih _ _ _ ha]; rw [ha] at h'; exact h'
    | loop body =>
      have h' : (match exec E n body σ with | some (.normal, σ1) => exec E n (.loop body) σ1 | r => r) = some r := h
      show (match exec E (n + 1) body σ with | some (.normal, σ1) => exec E (n + 1) (.loop body) σ1 | r => r) = some r
      cases ha : exec E n body σ with
      | none => rw [ha] at h'; cases h'
      | some x =>
        rw [ih _ _ _ ha]
        rw [ha] at h'
        obtain ⟨e, σ1⟩ := x
        cases e <;> first | exact ih _ _ _ h' | exact h'
    | exit id => exact h
    | ret => exact h
    | rangeFunc f ps asg body =>
      have h' : (match ev σ.fr f with | .it L => roundsD (exec E n) σ.fr ps.toList asg body L σ | _ => none) = some r := h
      show (match ev σ.fr f with | .it L => roundsD (exec E (n + 1)) σ.fr ps.toList asg body L σ | _ => none) = some r
      split at h'
      · exact rounds_mono ih h'
      · cases h'
    | _ => cases h
theorem exec_le (E : Env) {n m : Nat} (h : n ≤ m) : ExLe (exec E n) (exec E m) := by
  induction m with
  | zero => obtain rfl : n = 0 := by omega
            exact fun _ _ _ q => q
  | succ m ih =>
    by_cases e : n = m + 1
    · subst e; exact fun _ _ _ q => q
    · exact fun c σ r q => exec_succ E m c σ r (ih (by omega) c σ r q)

open Classical in
/-- the run, whatever fuel it takes -/
noncomputable def run (E : Env) (c : Code) (σ : St) : Option (Ex × St) := if h : ∃ n, (exec E n c σ).isSome then exec E (Classical.choose h) c σ else none
theorem run_iff {c : Code} {σ : St} {r : Ex × St} : run E c σ = some r ↔ ∃ n, exec E n c σ = some r := by
  unfold run
  constructor
  · intro h
    split at h
    · exact ⟨_, h⟩
    · cases h
  · rintro ⟨n, hn⟩
    have hex : ∃ n, (exec E n c σ).isSome := ⟨n, by rw [hn]; rfl⟩
    rw [dif_pos hex]
    obtain ⟨x, hx⟩ := Option.isSome_iff_exists.1 (Classical.choose_spec hex)
    rw [hx]
    have h1 := exec_le E (Nat.le_max_left n (Classical.choose hex)) _ _ _ hn
    have h2 := exec_le E (Nat.le_max_right n (Classical.choose hex)) _ _ _ hx
    rw [h1] at h2
    exact h2.symm
theorem exec_run (E : Env) (n : Nat) : ExLe (exec E n) (run E) := fun _c _σ _r h => run_iff.2 ⟨n, h⟩

/-- the value of a call -/
noncomputable def fn (E : Env) (k : Nat) (args : List D) : Option D := pureWith E (run E) k args
noncomputable def cal (E : Env) : Nat → List D → St → Option (D × St) := callWith E (run E)

theorem body_lim {k : Nat} {args : List D} {bx : List (List D)} {nx : Nat} {lv : List Nat} {r : D × St} (h : bodyWith E (run E) k args bx nx lv = some r) : ∃ n, bodyWith E (exec E n) k args bx nx lv = some r := by
  unfold bodyWith at h ⊢
  split at h
  · rename_i hf
    simp only [if_pos hf]
    split at h
    · rename_i f hk
      split at h
      · rename_i body hbd
        try simp only [hk, hbd]
        split at h
        · rename_i σ he
          obtain ⟨n, hn⟩ := run_iff.1 he
          exact ⟨n, by rw [hn]; exact h⟩
        · rename_i σ he
          obtain ⟨n, hn⟩ := run_iff.1 he
          exact ⟨n, by rw [hn]; exact h⟩
        · cases h
      · cases h
    · cases h
  · cases h
theorem fn_lim {k : Nat} {args : List D} {d : D} (h : fn E k args = some d) : ∃ n, pureWith E (exec E n) k args = some d := by
  unfold fn pureWith at h
  split at h
  · rename_i hp
    split at h
    · rename_i d' ho
      refine ⟨0, ?_⟩
      unfold pureWith
      rw [if_pos hp, ho]; exact h
    · rename_i ho
      split at h
      · rename_i d' σ' hb
        obtain ⟨n, hn⟩ := body_lim hb
        refine ⟨n, ?_⟩
        unfold pureWith
        rw [if_pos hp, ho]
        simp only [hn]; exact h
      · cases h
  · cases h
theorem fn_of {n k : Nat} {args : List D} {d : D} (h : pureWith E (exec E n) k args = some d) : fn E k args = some d := pure_mono (exec_run E n) h
theorem cal_lim {k : Nat} {args : List D} {σ : St} {r : D × St} (h : cal E k args σ = some r) : ∃ n, callWith E (exec E n) k args σ = some r := by
  unfold cal callWith at h
  split at h
  · rename_i hp
    rw [Option.map_eq_some_iff] at h
    obtain ⟨d, h1, h2⟩ := h
    obtain ⟨n, hn⟩ := fn_lim h1
    refine ⟨n, ?_⟩
    unfold callWith
    rw [if_pos hp, hn]; simp [h2]
  · rename_i hp
    split at h
    · rename_i d σ' hb
      obtain ⟨n, hn⟩ := body_lim hb
      refine ⟨n, ?_⟩
      unfold callWith
      rw [if_neg hp]
      simp only [hn]; exact h
    · cases h

/-- finitely many calls -/
theorem ops_lim {can : Nat → Nat → List D → St → Option (D × St)} (hm : ∀ n m, n ≤ m → CaLe (can n) (can m)) (hl : ∀ k a σ r, ca k a σ = some r → ∃ n, can n k a σ = some r) {ops : List Oper} : ∀ {l : List Oper} {σ σ' : St}, aops P ca ops l σ = some σ' → ∃ n, aops P (can n) ops l σ = some σ'
  | [], _, _, h => ⟨0, h⟩
  | o :: r, σ, σ', h => by
    unfold aops at h
    split at h
    · rename_i σ1 h1
      obtain ⟨n1, q1⟩ : ∃ n, astep P (can n) ops σ o = some σ1 := by
        unfold astep at h1 ⊢
        split at h1
        · rename_i hw
          simp only [if_pos hw]
          rw [Option.map_eq_some_iff] at h1
          obtain ⟨x, e1, e2⟩ := h1
          have : ∃ n, aeff P (can n) σ o = some x := by
            unfold aeff at e1 ⊢
            split at e1 <;> first | exact ⟨0, e1⟩ | skip
            rename_i c hc
            split at e1 <;> first | exact ⟨0, e1⟩ | skip
            rename_i f hf
            split at e1
            · rename_i k caps hev
              split at e1
              · rename_i hk
                obtain ⟨n, hn⟩ := hl _ _ _ _ e1
                exact ⟨n, by simp only [if_pos hk]; exact hn⟩
              · cases e1
            · cases e1
          obtain ⟨n, hn⟩ := this
          exact ⟨n, by rw [hn, zmo, e2]⟩
        · rename_i hw
          simp only [if_neg hw]
          exact ⟨0, h1⟩
      obtain ⟨n2, q2⟩ := ops_lim hm hl h
      refine ⟨max n1 n2, ?_⟩
      unfold aops
      rw [step_mono (hm _ _ (Nat.le_max_left n1 n2)) q1]
      exact ops_mono (hm _ _ (Nat.le_max_right n1 n2)) q2
    · cases h
end

section
variable (E : Env)
theorem run_skip (σ : St) : run E .skip σ = some (.normal, σ) := run_iff.2 ⟨1, rfl⟩
theorem run_ret (σ : St) : run E .ret σ = some (.ret, σ) := run_iff.2 ⟨1, rfl⟩
theorem run_exit (id : Nat) (σ : St) : run E (.exit id) σ = some (.exit id, σ) := run_iff.2 ⟨1, rfl⟩
theorem run_region {σ σ' : St} {id : Nat} {ops : Array Oper} (h : aops E.P (cal E) ops.toList ops.toList σ = some σ') : run E (.region id ops false) σ = some (.normal, σ') := by
  obtain ⟨n, hn⟩ := ops_lim (can := fun n => callWith E (exec E n)) (fun n m h => call_mono (exec_le E h)) (fun k a σ r => cal_lim) h
  refine run_iff.2 ⟨n + 1, ?_⟩
  simp only [exec, zft, if_false, hn, zmo]
theorem run_draw {σ σ1 σ' : St} {id : Nat} {ops : Array Oper} (h1 : aops E.P (pcall (fn E)) ops.toList (ops.toList.take (cutOf ops)) σ = some σ1) (h2 : aops E.P (cal E) ops.toList (ops.toList.drop (cutOf ops)) σ1 = some σ') : run E (.region id ops true) σ = some (.normal, σ') := by
  obtain ⟨n, hn⟩ := ops_lim (can := fun n => pcall (pureWith E (exec E n))) (fun n m h => pcall_le fun k a d => pure_mono (exec_le E h)) (fun k a σ r q => by
    unfold pcall at q
    rw [Option.map_eq_some_iff] at q
    obtain ⟨d, e1, e2⟩ := q
    obtain ⟨n, hn⟩ := fn_lim e1
    exact ⟨n, by unfold pcall; rw [hn]; simp [e2]⟩) h1
  obtain ⟨m, hm⟩ := ops_lim (can := fun n => callWith E (exec E n)) (fun n m h => call_mono (exec_le E h)) (fun k a σ r => cal_lim) h2
  refine run_iff.2 ⟨max n m + 1, ?_⟩
  simp only [exec, if_true]
  rw [ops_mono (pcall_le fun k a d => pure_mono (exec_le E (Nat.le_max_left n m))) hn]
  simp only [ops_mono (call_mono (exec_le E (Nat.le_max_right n m))) hm, zmo]
theorem aops_append {P : Program} {ca : Nat → List D → St → Option (D × St)} {ops : List Oper} : ∀ {l m : List Oper} {σ σ' : St}, aops P ca ops (l ++ m) σ = some σ' → ∃ σ1, aops P ca ops l σ = some σ1 ∧ aops P ca ops m σ1 = some σ'
  | [], m, σ, σ', h => ⟨σ, rfl, h⟩
  | o :: r, m, σ, σ', h => by
    rw [zca] at h
    unfold aops at h
    split at h
    · rename_i σ1 h1
      obtain ⟨σ2, q1, q2⟩ := aops_append h
      exact ⟨σ2, by unfold aops; rw [h1]; exact q1, q2⟩
    · cases h
theorem pcall_cal : CaLe (pcall (fn E)) (cal E) := by
  intro k a σ r h
  unfold pcall at h
  rw [Option.map_eq_some_iff] at h
  obtain ⟨d, h1, h2⟩ := h
  unfold cal callWith
  have hp : plain a = true := by
    have h1' := h1
    unfold fn pureWith at h1'
    split at h1'
    · assumption
    · cases h1'
  rw [if_pos hp]
  have : pureWith E (run E) k a = some d := h1
  rw [this]; simp [h2]
/-- a region all of whose calls are functions of their arguments -/
theorem run_reg {σ σ' : St} {id : Nat} {ops : Array Oper} {draw : Bool} (h : aops E.P (pcall (fn E)) ops.toList ops.toList σ = some σ') : run E (.region id ops draw) σ = some (.normal, σ') := by
  cases draw with
  | false => exact run_region E (ops_mono (pcall_cal E) h)
  | true =>
    rw [← List.take_append_drop (cutOf ops) ops.toList] at h
    have h' : aops E.P (pcall (fn E)) (ops.toList.take (cutOf ops) ++ ops.toList.drop (cutOf ops)) (ops.toList.take (cutOf ops) ++ ops.toList.drop (cutOf ops)) σ = some σ' := h
    obtain ⟨σ1, q1, q2⟩ := aops_append h'
    rw [List.take_append_drop] at q1 q2
    exact run_draw E q1 (ops_mono (pcall_cal E) q2)
theorem run_seq {a b : Code} {σ σ1 : St} {r : Ex × St} (h1 : run E a σ = some (.normal, σ1)) (h2 : run E b σ1 = some r) : run E (.seq a b) σ = some r := by
  obtain ⟨n, hn⟩ := run_iff.1 h1
  obtain ⟨m, hm⟩ := run_iff.1 h2
  refine run_iff.2 ⟨max n m + 1, ?_⟩
  show (match exec E (max n m) a σ with | some (.normal, σ1) => exec E (max n m) b σ1 | r => r) = some r
  rw [exec_le E (Nat.le_max_left n m) _ _ _ hn]
  exact exec_le E (Nat.le_max_right n m) _ _ _ hm
theorem run_seq_out {a b : Code} {σ σ1 : St} {e : Ex} (h1 : run E a σ = some (e, σ1)) (he : e ≠ .normal) : run E (.seq a b) σ = some (e, σ1) := by
  obtain ⟨n, hn⟩ := run_iff.1 h1
  refine run_iff.2 ⟨n + 1, ?_⟩
  show (match exec E n a σ with | some (.normal, σ1) => exec E n b σ1 | r => r) = some (e, σ1)
  rw [hn]
  cases e <;> first | exact absurd rfl he | rfl
theorem run_cond {c : Operand} {a b : Code} {σ : St} {t : Bool} {r : Ex × St} (hc : ev σ.fr c = .bool t) (h : run E (if t then a else b) σ = some r) : run E (.cond c a b) σ = some r := by
  obtain ⟨n, hn⟩ := run_iff.1 h
  refine run_iff.2 ⟨n + 1, ?_⟩
  show (match ev σ.fr c with | .bool true => exec E n a σ | .bool false => exec E n b σ | _ => none) = some r
  rw [hc]
  cases t <;> exact hn
theorem run_block {id : Nat} {a : Code} {σ σ1 : St} {e : Ex} (h : run E a σ = some (e, σ1)) : run E (.block id a) σ = some (match e with | .exit j => if j = id then .normal else .exit j | e => e, σ1) := by
  obtain ⟨n, hn⟩ := run_iff.1 h
  refine run_iff.2 ⟨n + 1, ?_⟩
  show (match exec E n a σ with | some (.exit j, σ1) => some (if j = id then Ex.normal else Ex.exit j, σ1) | r => r) = _
  rw [hn]
  cases e <;> rfl
theorem run_loop {a : Code} {σ σ1 : St} {r : Ex × St} (h1 : run E a σ = some (.normal, σ1)) (h2 : run E (.loop a) σ1 = some r) : run E (.loop a) σ = some r := by
  obtain ⟨n, hn⟩ := run_iff.1 h1
  obtain ⟨m, hm⟩ := run_iff.1 h2
  refine run_iff.2 ⟨max n m + 1, ?_⟩
  show (match exec E (max n m) a σ with | some (.normal, σ1) => exec E (max n m) (.loop a) σ1 | r => r) = some r
  rw [exec_le E (Nat.le_max_left n m) _ _ _ hn]
  exact exec_le E (Nat.le_max_right n m) _ _ _ hm
theorem run_loop_out {a : Code} {σ σ1 : St} {e : Ex} (h1 : run E a σ = some (e, σ1)) (he : e ≠ .normal) : run E (.loop a) σ = some (e, σ1) := by
  obtain ⟨n, hn⟩ := run_iff.1 h1
  refine run_iff.2 ⟨n + 1, ?_⟩
  show (match exec E n a σ with | some (.normal, σ1) => exec E n (.loop a) σ1 | r => r) = some (e, σ1)
  rw [hn]
  cases e <;> first | exact absurd rfl he | rfl

/-- a call's value, out of its body's run -/
theorem fn_body {k : Nat} {args : List D} {f : Func} {body : Code} {e : Ex} {σ : St} {d : D} (hfs : E.fs k = true) (hf : E.P.funcs[k]? = some f) (hb : f.body = some body) (hp : plain args = true) (ho : E.orc k (args.map D.strip) = none)
    (hr : run E body (enterSt f (args.map D.strip) [] 0 []) = some (e, σ)) (he : e = .normal ∨ e = .ret) (hd : resD E.P f σ = some d) (hu : d.under 0 = true) : fn E k args = some d.strip := by
  unfold fn pureWith
  unfold plain at hp
  rw [if_pos hp, ho]
  have : bodyWith E (run E) k (args.map D.strip) [] 0 [] = some (d, σ) := by
    unfold bodyWith
    rw [if_pos hfs, hf]
    simp only [hb, hr]
    rcases he with rfl | rfl <;> simp [hd]
  simp only [this]
  rw [if_pos hu]
theorem fn_orc {k : Nat} {args : List D} {d : D} (hp : plain args = true) (ho : E.orc k (args.map D.strip) = some d) : fn E k args = some d := by
  unfold fn pureWith
  unfold plain at hp
  rw [if_pos hp, ho]
/-- the value of a call over data is what the call returns in memory -/
theorem fn_sound (hE : E.Ok) {k : Nat} {args : List D} {d : D} (h : fn E k args = some d) : PContract E.P k args d := by
  obtain ⟨n, hn⟩ := fn_lim h
  exact run_sound hE hn
end

end Go.Proofs.Ytmglacjcefajlaa

/- Walks over the machine's runs. Over any program. -/
namespace Go.Proofs.Ytmglacjcefajlaa
open Go.RowKit

def X (E : Env) (c : Code) (σ : St) (Q : Ex → St → Prop) : Prop := ∃ e σ', run E c σ = some (e, σ') ∧ Q e σ'
def Then (E : Env) (b : Code) (Q : Ex → St → Prop) : Ex → St → Prop
  | .normal, σ => X E b σ Q
  | e, σ => Q e σ
def InBlock (id : Nat) (Q : Ex → St → Prop) : Ex → St → Prop
  | .exit j, σ => if j = id then Q .normal σ else Q (.exit j) σ
  | e, σ => Q e σ
def Round (I : Nat → St → Prop) (n : Nat) (Q : Ex → St → Prop) : Ex → St → Prop
  | .normal, σ => ∃ m, m < n ∧ I m σ
  | e, σ => Q e σ

section
variable {E : Env} {Q : Ex → St → Prop} {σ σ' : St} {a b : Code}
theorem X_skip (h : Q .normal σ) : X E .skip σ Q := ⟨_, _, run_skip E σ, h⟩
theorem X_ret (h : Q .ret σ) : X E .ret σ Q := ⟨_, _, run_ret E σ, h⟩
theorem X_exit {id : Nat} (h : Q (.exit id) σ) : X E (.exit id) σ Q := ⟨_, _, run_exit E id σ, h⟩
theorem X_rg {id : Nat} {ops : List Oper} {draw : Bool} (h : ∀ R : Option St → Prop, (∀ σ', Q .normal σ' → R (some σ')) → R (aops E.P (pcall (fn E)) ops ops σ)) : X E (.region id ops.toArray draw) σ Q := by
  obtain ⟨σ', h1, h2⟩ := h (fun o => ∃ σ', o = some σ' ∧ Q .normal σ') fun σ' hq => ⟨σ', rfl, hq⟩
  exact ⟨_, _, run_reg E h1, h2⟩
theorem X_seq (h : X E a σ (Then E b Q)) : X E (.seq a b) σ Q := by
  obtain ⟨e, σ1, h1, h2⟩ := h
  cases e with
  | normal =>
    obtain ⟨e2, σ2, h3, h4⟩ := h2
    exact ⟨e2, σ2, run_seq E h1 h3, h4⟩
  | ret => exact ⟨_, _, run_seq_out E h1 (by simp), h2⟩
  | exit id => exact ⟨_, _, run_seq_out E h1 (by simp), h2⟩
theorem X_cond {c : Operand} {t : Bool} (hc : ev σ.fr c = .bool t) (h : X E (if t then a else b) σ Q) : X E (.cond c a b) σ Q := by
  obtain ⟨e, σ1, h1, h2⟩ := h
  exact ⟨e, σ1, run_cond E hc h1, h2⟩
theorem X_true {c : Operand} (hc : ev σ.fr c = .bool true) (h : X E a σ Q) : X E (.cond c a b) σ Q := X_cond hc h
theorem X_false {c : Operand} (hc : ev σ.fr c = .bool false) (h : X E b σ Q) : X E (.cond c a b) σ Q := X_cond hc h
theorem X_block {id : Nat} (h : X E a σ (InBlock id Q)) : X E (.block id a) σ Q := by
  obtain ⟨e, σ1, h1, h2⟩ := h
  have h3 := run_block E (id := id) h1
  cases e with
  | normal => exact ⟨_, σ1, h3, h2⟩
  | ret => exact ⟨_, σ1, h3, h2⟩
  | exit j =>
    simp only [InBlock] at h2
    by_cases hj : j = id
    · simp only [if_pos hj] at h2 h3; exact ⟨_, σ1, h3, h2⟩
    · simp only [if_neg hj] at h2 h3; exact ⟨_, σ1, h3, h2⟩
theorem X_loop (I : Nat → St → Prop) (hI : ∀ n σ, I n σ → X E a σ (Round I n Q)) : ∀ n σ, I n σ → X E (.loop a) σ Q := by
  intro n
  induction n using Nat.strongRecOn with
  | ind n ih =>
    intro σ h
    obtain ⟨e, σ1, h1, h2⟩ := hI n σ h
    cases e with
    | normal =>
      obtain ⟨m, hm, h3⟩ := h2
      obtain ⟨e2, σ2, h4, h5⟩ := ih m hm σ1 h3
      exact ⟨e2, σ2, run_loop E h1 h4, h5⟩
    | ret => exact ⟨_, _, run_loop_out E h1 (by simp), h2⟩
    | exit id => exact ⟨_, _, run_loop_out E h1 (by simp), h2⟩

/-- the rounds of a range over a function -/
def XR (E : Env) (fr : List D) (ps : List Nat) (asg body : Code) (L : List (List D)) (σ : St) (Q : Ex → St → Prop) : Prop := ∃ e σ', roundsD (run E) fr ps asg body L σ = some (e, σ') ∧ Q e σ'
/-- how a round ends -/
def RoundR (_E : Env) (fr : List D) (I : List (List D) → St → Prop) (r : List (List D)) (Q : Ex → St → Prop) : Ex → St → Prop
  | .normal, σ => I r σ
  | e, σ => Q e { σ with fr := fr }
theorem rounds_lim {fr : List D} {ps : List Nat} : ∀ {L : List (List D)} {σ : St} {r : Ex × St}, roundsD (run E) fr ps a b L σ = some r → ∃ n, roundsD (exec E n) fr ps a b L σ = some r
  | [], _, _, h => ⟨0, h⟩
  | x :: L, σ, r, h => by
    unfold roundsD at h
    split at h
    · rename_i hl
      split at h
      · rename_i σ1 h1
        obtain ⟨n1, q1⟩ := run_iff.1 h1
        split at h
        · rename_i σ2 h2
          obtain ⟨n2, q2⟩ := run_iff.1 h2
          obtain ⟨n3, q3⟩ := rounds_lim h
          refine ⟨max n1 (max n2 n3), ?_⟩
          unfold roundsD
          rw [if_pos hl, exec_le E (by omega) _ _ _ q1]
          dsimp only
          rw [exec_le E (by omega) _ _ _ q2]
          exact rounds_mono (exec_le E (by omega)) q3
        · rename_i e σ2 hne h2
          obtain ⟨n2, q2⟩ := run_iff.1 h2
          refine ⟨max n1 n2, ?_⟩
          unfold roundsD
          rw [if_pos hl, exec_le E (by omega) _ _ _ q1]
          dsimp only
          rw [exec_le E (by omega) _ _ _ q2]
          cases e <;> first | exact (hne rfl).elim | exact h
        · cases h
      · cases h
    · cases h
theorem X_range {f : Operand} {ps : Array Tmp} {L : List (List D)} (hL : ev σ.fr f = .it L) (h : XR E σ.fr ps.toList a b L σ Q) : X E (.rangeFunc f ps a b) σ Q := by
  obtain ⟨e, σ', h1, h2⟩ := h
  obtain ⟨n, hn⟩ := rounds_lim h1
  refine ⟨e, σ', run_iff.2 ⟨n + 1, ?_⟩, h2⟩
  show (match ev σ.fr f with | .it L => roundsD (exec E n) σ.fr ps.toList a b L σ | _ => none) = some (e, σ')
  rw [hL]; exact hn
/-- a range by an invariant over what is left -/
theorem XR_inv {fr : List D} {ps : List Nat} (I : List (List D) → St → Prop) (hnil : ∀ σ, I [] σ → Q .normal { σ with fr := fr })
    (hcons : ∀ x r σ, I (x :: r) σ → x.length = ps.length ∧ X E a { σ with fr := setPs fr ps x } (fun e σ1 => e = .normal ∧ X E b σ1 (RoundR E fr I r Q))) : ∀ L σ, I L σ → XR E fr ps a b L σ Q
  | [], σ, h => ⟨_, _, rfl, hnil σ h⟩
  | x :: r, σ, h => by
    obtain ⟨hl, e, σ1, h1, rfl, e2, σ2, h2, h3⟩ := hcons x r σ h
    cases e2 with
    | normal =>
      obtain ⟨e3, σ3, h4, h5⟩ := XR_inv I hnil hcons r σ2 h3
      refine ⟨e3, σ3, ?_, h5⟩
      unfold roundsD
      rw [if_pos hl, h1]
      dsimp only
      rw [h2]
      exact h4
    | ret =>
      refine ⟨.ret, { σ2 with fr := fr }, ?_, h3⟩
      unfold roundsD
      rw [if_pos hl, h1]
      dsimp only
      rw [h2]
    | exit id =>
      refine ⟨.exit id, { σ2 with fr := fr }, ?_, h3⟩
      unfold roundsD
      rw [if_pos hl, h1]
      dsimp only
      rw [h2]

/-- boxes behind those that are not named -/
theorem app_get0 {α : Type} (r l : List α) : (r ++ l)[r.length]? = l[0]? := by rw [List.getElem?_append_right (Nat.le_refl _), Nat.sub_self]
theorem app_get1 {α : Type} (r l : List α) : (r ++ l)[r.length + 1]? = l[1]? := by rw [List.getElem?_append_right (by omega)]; congr 1; omega
theorem app_set0 {α : Type} (r l : List α) (x : α) : (r ++ l).set r.length x = r ++ l.set 0 x := by rw [List.set_append_right _ _ (Nat.le_refl _), Nat.sub_self]
theorem app_set1 {α : Type} (r l : List α) (x : α) : (r ++ l).set (r.length + 1) x = r ++ l.set 1 x := by rw [List.set_append_right _ _ (by omega)]; congr 2; omega
theorem inr_i64 (n : Int) : inr .i64 n = ((-9223372036854775808 ≤ n) ∧ (n ≤ 9223372036854775807)) := rfl
theorem inr_u8 (n : Int) : inr .u8 n = ((0 ≤ n) ∧ (n ≤ 255)) := rfl
theorem nat_lt {a b : Nat} : ((a : Int) < (b : Int)) = (a < b) := by simp
theorem nat_le {a b : Nat} : ((a : Int) ≤ (b : Int)) = (a ≤ b) := by simp
theorem nat_0 (a : Nat) : ((0 : Int) ≤ (a : Int)) = True := by simp
theorem nat_to (a : Nat) : ((a : Int)).toNat = a := by simp
theorem nat_succ {a : Nat} (h : a < 9223372036854775807) : IntKind.i64.wrap ((a : Int) + 1) = ((a + 1 : Nat) : Int) := by
  simp only [IntKind.wrap, IntKind.bits, IntKind.signed]; simp; omega

/-- how a body ends -/
def Ends (E : Env) (f : Func) (d : D) : Ex → St → Prop
  | .normal, σ => resD E.P f σ = some d
  | .ret, σ => resD E.P f σ = some d
  | _, _ => False
theorem fn_X {k : Nat} {args : List D} {f : Func} {body : Code} {d : D} (hfs : E.fs k = true) (hf : E.P.funcs[k]? = some f) (hb : f.body = some body) (hp : plain args = true) (ho : E.orc k (args.map D.strip) = none) (hu : d.under 0 = true) (hs : d.strip = d)
    (h : X E body (enterSt f (args.map D.strip) [] 0 []) (Ends E f d)) : fn E k args = some d := by
  obtain ⟨e, σ1, h1, h2⟩ := h
  have hr : (e = .normal ∨ e = .ret) ∧ resD E.P f σ1 = some d := by
    cases e with
    | normal => exact ⟨.inl rfl, h2⟩
    | ret => exact ⟨.inr rfl, h2⟩
    | exit id => exact h2.elim
  have := fn_body E hfs hf hb hp ho h1 hr.1 hr.2 hu
  rw [hs] at this
  exact this
end

end Go.Proofs.Ytmglacjcefajlaa
