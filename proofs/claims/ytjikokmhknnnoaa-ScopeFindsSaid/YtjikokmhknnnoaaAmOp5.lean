/- Operations that leave memory alone: structs, and all of them together. -/
import Derived.Test.YtjikokmhknnnoaaAmOp4
import Derived.MapKept
namespace Go.Proofs.Ytjikokmhknnnoaa
open Go.RowKit

section
variable {P : Program} {w : World} {g : Gh} {ρ : Operand → Value} {vals : Operand → D} {bx : Nat → Option (List D)} {o : Oper} {d : D}

theorem fold_splice (off : Nat) : ∀ (cs : List Value) (i : Nat) (a : Array Value), off + i + cs.length ≤ a.size →
    ((cs.zipIdx i).foldl (fun (q : Array Value) (x : Value × Nat) => q.setIfInBounds (off + x.2) x.1) a).toList = a.toList.take (off + i) ++ cs ++ a.toList.drop (off + i + cs.length)
  | [], i, a, h => by simp
  | c :: r, i, a, h => by
    simp only [List.length_cons] at h
    rw [List.zipIdx_cons, List.foldl_cons, fold_splice off r (i + 1) _ (by simp; omega)]
    have hlt : off + i < a.toList.length := by simp; omega
    simp only [Array.toList_setIfInBounds, List.length_cons]
    have e1 : (a.toList.set (off + i) c).take (off + (i + 1)) = a.toList.take (off + i) ++ [c] := by
      rw [show off + (i + 1) = off + i + 1 from by omega, List.take_succ_eq_append_getElem (by simpa using hlt), List.getElem_set_self, List.take_set_of_le (by omega)]
    have e2 : (a.toList.set (off + i) c).drop (off + (i + 1) + r.length) = a.toList.drop (off + i + (r.length + 1)) := by
      rw [List.drop_set_of_lt (by omega)]
      congr 1; omega
    rw [e1, e2]
    simp

theorem afill_sound {flds : Nat → Option (Nat × Nat)} : ∀ {parts : List (Nat × Operand)} {cells : List D} {vs : List Value} {l : List D}, R w g (.agg cells) vs → (∀ p ∈ parts, val w g (vals p.2) (ρ p.2)) → afill flds cells (parts.map fun p => (p.1, vals p.2)) = some l →
    ∃ us, Instr.fill flds vs.toArray (parts.map fun p => (p.1, ρ p.2)) = some us ∧ R w g (.agg l) us.toList
  | [], cells, vs, l, hr, _, h => by
    simp only [List.map_nil, afill] at h
    cases h
    exact ⟨_, rfl, hr⟩
  | (i, x) :: rest, cells, vs, l, hr, hp, h => by
    simp only [List.map_cons, afill] at h
    split at h
    · cases h
    rename_i off size hf
    split at h
    · rename_i hc
      obtain ⟨hg, hl, hle⟩ := hc
      have hv := hp (i, x) List.mem_cons_self
      have hR := (hv.to1 hg).val_cells
      have hlen := R_agg_len hr
      have hcl : (ρ x).cells.size = size := by rw [← hl, ← hR.len]; simp
      have hnew : R w g (.agg (cells.take off ++ (vals x).cells ++ cells.drop (off + size))) (vs.take off ++ (ρ x).cells.toList ++ vs.drop (off + size)) := by
        refine R_agg_append (R_agg_append ?_ hR.cell) ?_
        · have := R_agg_sub hr 0 off; simpa using this
        · have := R_agg_sub hr (off + size) (cells.length - (off + size))
          rw [List.take_of_length_le (by simp), List.take_of_length_le (by simp; omega)] at this
          exact this
      obtain ⟨us, h1, h2⟩ := afill_sound hnew (fun p hp' => hp p (List.mem_cons_of_mem _ hp')) h
      refine ⟨us, ?_, h2⟩
      simp only [List.map_cons, Instr.fill, hf]
      rw [if_neg (by simp only [hcl, ne_eq, not_true_eq_false, decide_false, Bool.false_or, decide_eq_true_eq, List.size_toArray]; omega)]
      have := fold_splice off (ρ x).cells.toList 0 vs.toArray (by simp only [Array.length_toList, List.size_toArray]; omega)
      have e : ((ρ x).cells.zipIdx.foldl (fun (q : Array Value) (x : Value × Nat) => q.setIfInBounds (off + x.2) x.1) vs.toArray) = (vs.take off ++ (ρ x).cells.toList ++ vs.drop (off + size)).toArray := by
        apply Array.toList_inj.1
        rw [← Array.foldl_toList, Array.toList_zipIdx, this]
        simp [hcl]
      rw [← h1, ← e]
    · cases h

theorem places_of : ∀ {fs : List Field}, fs.all (fun f => (P.info? f.type).isSome) = true → fs.mapM (fun f => (P.info? f.type).map fun i => (f.offset, i.size)) = some (fs.map fun f => (f.offset, P.cellsOf f.type))
  | [], _ => rfl
  | f :: fs, h => by
    simp only [List.all_cons, Bool.and_eq_true] at h
    obtain ⟨i, hi⟩ := Option.isSome_iff_exists.1 h.1
    rw [List.mapM_cons, places_of h.2, hi]
    simp [Program.cellsOf, hi]

theorem aop_build {t : TypeId} {parts : Array (Nat × Operand)} (ho : o.op = .build t parts) (hp : ∀ p ∈ parts.toList, val w g (vals p.2) (ρ p.2)) (h : aop P vals bx o = some d) : Yields P w g ρ o d := by
  simp only [aop, ho] at h
  split at h
  · rename_i y fs hy hu
    split at h
    · rename_i hall
      split at h
      · rename_i z hz
        obtain ⟨i, u, hi, hu', _, _, hzero, hfl, _⟩ := tyOf_some hy
        rw [hu] at hu'
        cases hu'
        rw [hzero] at hz
        cases hzz : i.zero with
        | none => rw [hzz] at hz; cases hz
        | some zv =>
          rw [hzz] at hz
          simp only [Option.bind_some] at hz
          cases hf : afill (fun i => (y.flds[i]?).map fun f => (f.1, f.2.1)) z (parts.toList.map fun p => (p.1, vals p.2)) with
          | none => rw [hf] at h; cases h
          | some l =>
            rw [hf] at h
            cases h
            obtain ⟨us, h1, h2⟩ := afill_sound (ofCells_R hz) hp hf
            refine ⟨.agg us, ?_, val_of_agg h2⟩
            simp only [execOp, ho]
            refine andThen_v ?_
            refine run_build w t _ us ?_
            unfold Program.built
            simp only [hi, hu, hzz, places_of hall]
            have e1 : (fun i : Nat => (y.flds[i]?).map fun f : Nat × Nat × Bool => (f.1, f.2.1)) = fun i : Nat => (fs.toList.map fun f => (f.offset, P.cellsOf f.type)).toArray[i]? := by
              funext k
              rw [hfl]
              simp only [List.getElem?_map, Option.map_map, List.getElem?_toArray]
              rfl
            rw [e1] at h1
            rw [← h1]
            congr 1
            simp
      · cases h
    · cases h
  · cases h

theorem aop_makeFunc {fn : Fn} {first captured : Array Operand} (ho : o.op = .makeFunc fn first captured) (hp : ∀ x ∈ captured.toList, val w g (vals x) (ρ x)) (h : aop P vals bx o = some d) : Yields P w g ρ o d := by
  simp only [aop, ho] at h
  split at h
  · rename_i f
    split at h
    · rename_i hc
      cases h
      have hf : first = #[] := by simpa using hc.1
      subst hf
      refine ⟨.func (.func f) #[] (captured.toList.map ρ).toArray, ?_, val_of_R (.fn f _ _ (by simp) (fun d hd => by have := List.all_eq_true.1 hc.2 d hd; simp only [Bool.and_eq_true, Bool.not_eq_true'] at this; exact this.2) (fun j h1 h2 => ?_)) rfl⟩
      · simp only [execOp, ho]
        refine andThen_v ?_
        simp only [Instr.makeFunc, Sem.run_pure, Array.map_empty, Result.ok.injEq, Value.func.injEq, true_and, and_true]
        apply Array.toList_inj.1
        simp
      · simp only [List.getElem_map]
        have hm : captured.toList[j]'(by simpa using h1) ∈ captured.toList := List.getElem_mem _
        have hall := List.all_eq_true.1 hc.2 _ (List.mem_map_of_mem hm)
        generalize captured.toList[j]'(by simpa using h1) = x at hm hall ⊢
        simp only [Bool.and_eq_true, Bool.not_eq_true'] at hall
        obtain ⟨cs, hr, hpk⟩ := (hp _ hm).to1 hall.1
        obtain ⟨v', rfl, _⟩ := hr.single hall.2
        have : ρ x = v' := by
          rw [hpk]
          have := hall.2
          cases hq : vals x <;> rw [hq] at this <;> first | rfl | simp [D.isAgg] at this
        rw [this]
        exact hr
    · cases h
  · cases h

theorem ent_even (es : Array MapEntry) (j : Nat) (h : j < es.size) : ent es (2 * j) = es[j].key := by
  unfold ent
  rw [show 2 * j / 2 = j from by omega, Array.getElem?_eq_getElem h]
  simp
theorem ent_odd (es : Array MapEntry) (j : Nat) (h : j < es.size) : ent es (2 * j + 1) = es[j].val := by
  unfold ent
  rw [show (2 * j + 1) / 2 = j from by omega, Array.getElem?_eq_getElem h]
  dsimp only
  rw [if_neg (by omega)]
/-- a map's entries, one after another -/
def EntL (w : World) (g : Gh) : List D → List MapEntry → Prop
  | [], [] => True
  | a :: v :: r, e :: es => R w g a [e.key] ∧ R w g v [e.val] ∧ EntL w g r es
  | _, _ => False
theorem entL_of {es : Array MapEntry} {l : List D} (hl : l.length = 2 * es.size) (h : ∀ (j : Nat) (h : j < l.length), R w g l[j] [ent es j]) : EntL w g l es.toList := by
  have key : ∀ (m k : Nat), k + m = es.size → EntL w g (l.drop (2 * k)) (es.toList.drop k) := by
    intro m
    induction m with
    | zero =>
      intro k hk
      rw [List.drop_eq_nil_of_le (by omega), List.drop_eq_nil_of_le (by simp; omega)]
      exact True.intro
    | succ m ih =>
      intro k hk
      have hk' : k < es.size := by omega
      rw [List.drop_eq_getElem_cons (show 2 * k < l.length by omega), List.drop_eq_getElem_cons (show 2 * k + 1 < l.length by omega), List.drop_eq_getElem_cons (show k < es.toList.length by simpa using hk')]
      have h0 := h (2 * k) (by omega)
      have h1 := h (2 * k + 1) (by omega)
      rw [ent_even es k hk'] at h0
      rw [ent_odd es k hk'] at h1
      exact ⟨by simpa using h0, by simpa using h1, by have := ih (k + 1) (by omega); rwa [show 2 * (k + 1) = 2 * k + 1 + 1 from by omega] at this⟩
  have := key es.size 0 (by omega)
  simpa using this
theorem sameK_now {td : TypeDesc} {x y : D} {u v : Value} {r : Bool} (hx : R w g x [u]) (hy : R w g y [v]) (h : sameK td x y = some r) : Instr.sameNow td u v = some r := by
  unfold sameK at h
  split at h
  · rename_i k a k' b
    split at h
    · rename_i hk
      cases h
      obtain ⟨e1, _⟩ := R_int hx
      obtain ⟨e2, _⟩ := R_int hy
      simp only [List.cons.injEq, and_true] at e1 e2
      subst e1 e2 hk
      simp [Instr.sameNow]
    · cases h
  · rename_i a b
    cases h
    obtain ⟨e1, _⟩ := R_str hx
    obtain ⟨e2, _⟩ := R_str hy
    simp only [List.cons.injEq, and_true] at e1 e2
    subst e1 e2
    simp only [Instr.sameNow, Option.some.injEq]
    have := MapKept.sameNow_of_keys (d := .string) (a := .string a) (b := .string b) trivial trivial
    obtain ⟨q, h1, h2⟩ := this
    simp only [Instr.sameNow, Option.some.injEq] at h1
    rw [h1, Bool.eq_iff_iff, h2]; simp
  · cases h
theorem mfind_now {td : TypeDesc} {k : D} {kv : Value} (hk : R w g k [kv]) : ∀ {l : List D} {es : List MapEntry} {r : Option D} (i : Nat), EntL w g l es → mfind td k l = some r →
    match r with
    | none => Instr.findNow td kv es i = some none
    | some d => ∃ j v, Instr.findNow td kv es i = some (some (j, v)) ∧ R w g d [v]
  | [], [], r, i, _, h => by cases h; rfl
  | a :: v :: l, e :: es, r, i, ⟨h1, h2, h3⟩, h => by
    unfold mfind at h
    unfold Instr.findNow
    split at h
    · rename_i hs
      cases h
      rw [sameK_now hk h1 hs]
      exact ⟨i, e.val, rfl, h2⟩
    · rename_i hs
      rw [sameK_now hk h1 hs]
      exact mfind_now hk (i + 1) h3 h
    · cases h
theorem keyOk_is {td : TypeDesc} {k : D} {kv : Value} (hk : val w g k kv) (h : keyOk td k = true) : MapKept.IsKey td kv ∧ R w g k [kv] := by
  unfold keyOk at h
  split at h
  · rename_i a b n
    obtain ⟨rfl, hi⟩ := val_int hk
    exact ⟨by simpa [MapKept.IsKey] using h, .int _ _ hi⟩
  · rename_i s
    obtain ⟨rfl, hs⟩ := val_str hk
    exact ⟨trivial, .str _ hs⟩
  · cases h
/-- what a map's datum says of the map -/
theorem mcont_es {m : D} {v : Value} {l : List D} (hv : val w g m v) (hb : BoxesAt w g bx) (h : mcont bx m = some l) : (v = .map none ∧ l = []) ∨ ∃ b es clock, v = .map (some b) ∧ w.heap[b]? = some (.map es clock) ∧ EntL w g l es.toList := by
  unfold mcont at h
  split at h
  · cases h
    obtain ⟨cs, h1, rfl⟩ := hv
    cases h1
    exact .inl ⟨rfl, rfl⟩
  · cases h
    obtain ⟨cs, h1, rfl⟩ := hv
    cases h1 with
    | cmap _ b es clock hp hh hl h => exact .inr ⟨b, es, clock, rfl, hh, entL_of hl h⟩
  · rename_i i
    obtain ⟨cs, h1, rfl⟩ := hv
    cases h1 with
    | mref _ b h0 hm =>
      have := hb i l b h h0
      rw [hm] at this
      obtain ⟨es, clock, q1, q2, _, q3⟩ := this
      exact .inr ⟨b, es, clock, rfl, q1, entL_of q2 q3⟩
  · cases h
theorem aop_lookup {t : TypeId} {x k : Operand} {cok : Bool} (ho : o.op = .lookup t x k cok) (hx : val w g (vals x) (ρ x)) (hk : val w g (vals k) (ρ k)) (hb : BoxesAt w g bx) (h : aop P vals bx o = some d) : Yields P w g ρ o d := by
  simp only [aop, ho, alook] at h
  split at h
  · rename_i kt et hu
    split at h
    · rename_i td hd
      split at h
      · rename_i hko
        obtain ⟨hik, hRk⟩ := keyOk_is hk hko
        split at h
        · rename_i l hl
          have hes : ∃ es : Array MapEntry, EntL w g l es.toList ∧ ∀ (a : Option (Nat × Value)) (v : Value) (b : Bool), Instr.findNow td (ρ k) es.toList 0 = some a → ((∃ i, a = some (i, v)) ∧ b = true ∨ a = none ∧ b = false ∧ (zeroValue et).run P w = .ok v w) →
              (execOp ρ o).run P w = .ok (.value (if cok then .tuple #[v, .bool b] else v)) w := by
            rcases mcont_es hx hb hl with ⟨e1, e2⟩ | ⟨b, es, clock, e1, e2, e3⟩
            · refine ⟨#[], by rw [e2]; trivial, fun a v b hf hz => ?_⟩
              simp only [execOp, ho, e1]
              refine andThen_v ?_
              rcases hz with ⟨⟨i, rfl⟩, rfl⟩ | ⟨rfl, rfl, hz⟩
              · simp [Instr.findNow] at hf
              · simp [Instr.lookup, run_underlying hu, MapKept.run_checkKey hd hik, MapKept.run_findKey hd hf, Result.andThen, hz]
            · refine ⟨es, e3, fun a v c hf hz => ?_⟩
              simp only [execOp, ho, e1]
              refine andThen_v ?_
              rcases hz with ⟨⟨i, rfl⟩, rfl⟩ | ⟨rfl, rfl, hz⟩
              · simp [Instr.lookup, run_underlying hu, MapKept.run_getObj_map e2, MapKept.run_checkKey hd hik, MapKept.run_findKey hd hf, Result.andThen]
              · simp [Instr.lookup, run_underlying hu, MapKept.run_getObj_map e2, MapKept.run_checkKey hd hik, MapKept.run_findKey hd hf, Result.andThen, hz]
          obtain ⟨es, hEL, run⟩ := hes
          split at h
          · rename_i v hm
            obtain ⟨j, u, q1, q2⟩ := mfind_now hRk 0 hEL hm
            split at h
            · rename_i hv
              have h' := Option.some.inj h
              subst h'
              refine ⟨_, run _ u true q1 (.inl ⟨⟨_, rfl⟩, rfl⟩), ?_⟩
              have hvu : val w g v u := val_of_R q2 hv.1
              cases cok with
              | false => exact hvu
              | true =>
                refine ⟨[u, .bool true], rfl, rfl, fun j h1 h2 => ?_⟩
                match j with
                | 0 => exact hvu.to1 hv.2
                | 1 => exact ⟨[.bool true], .bool true, rfl⟩
            · cases h
          · rename_i hm
            have q1 := mfind_now hRk 0 hEL hm
            split at h
            · rename_i z hz
              have h' := Option.some.inj h
              subst h'
              rw [Option.bind_eq_some_iff] at hz
              obtain ⟨zv, hz, hzo⟩ := hz
              rw [Option.bind_eq_some_iff] at hz
              obtain ⟨i, hi, hzv⟩ := hz
              have hRz := ofValue_R (w := w) (g := g) hzo
              have hza : z.isAgg = false := by
                unfold ofValue at hzo
                split at hzo <;> (try split at hzo) <;> cases hzo <;> rfl
              have hzr : (zeroValue et).run P w = .ok zv w := by unfold zeroValue; rw [Sem.run_bind, run_info hi, Result.andThen_ok, hzv]; rfl
              refine ⟨_, run none zv false q1 (.inr ⟨rfl, rfl, hzr⟩), ?_⟩
              have hvu : val w g z zv := val_of_R hRz hza
              cases cok with
              | false => exact hvu
              | true =>
                refine ⟨[zv, .bool false], rfl, rfl, fun j h1 h2 => ?_⟩
                match j with
                | 0 => exact hvu.to1 hRz.good
                | 1 => exact ⟨[.bool false], .bool false, rfl⟩
            · cases h
          · cases h
        · cases h
      · cases h
    · cases h
  · cases h
theorem aop_fieldv {t : TypeId} {x : Operand} {f : Nat} (ho : o.op = .field t x f) (hx : val w g (vals x) (ρ x)) (h : aop P vals bx o = some d) : Yields P w g ρ o d := by
  simp only [aop, ho] at h
  split at h
  · rename_i fs hu
    split at h
    · rename_i fd hfd
      split at h
      · rename_i y hy
        obtain ⟨i, u, hi, hut, hs, ha, _, _, _⟩ := tyOf_some hy
        split at h
        · rename_i l hl
          rw [hl] at hx
          obtain ⟨vs, hv, hR⟩ := val_agg hx
          have hlen := R_agg_len hR
          have hfd' : fs[f]? = some fd := by simpa using hfd
          have hsub := R_agg_sub hR fd.offset y.sz
          have run : ∀ v, (part fd.type vs.toArray fd.offset).run P w = .ok v w → (execOp ρ o).run P w = .ok (.value v) w := by
            intro v h1
            simp only [execOp, ho, hv]
            refine andThen_v ?_
            unfold Instr.field
            rw [Sem.run_bind, run_underlying hu, Result.andThen_ok]
            dsimp only
            rw [hfd']
            dsimp only
            simp only [asAgg, pure_bind]
            exact h1
          split at h
          · rename_i hle
            unfold mkD at h
            split at h
            · rename_i hag
              cases h
              refine ⟨.agg ((vs.drop fd.offset).take y.sz).toArray, run _ ?_, val_of_agg hsub⟩
              unfold part
              rw [Sem.run_bind, run_isAgg hut, Result.andThen_ok, if_pos (by rw [← ha]; exact hag), Sem.run_bind, run_size hi, Result.andThen_ok, ← hs]
              have : vs.toArray.extract fd.offset (fd.offset + y.sz) = ((vs.drop fd.offset).take y.sz).toArray := by
                apply Array.toList_inj.1
                simp [List.extract_eq_take_drop]
              rw [this]; rfl
            · rename_i hag
              split at h
              · rename_i d0 hd0
                split at h
                · cases h
                · rename_i hna
                  cases h
                  rw [hd0] at hsub
                  obtain ⟨v, hv1⟩ : ∃ v, (vs.drop fd.offset).take y.sz = [v] := by
                    have := R_agg_len hsub
                    match hq : (vs.drop fd.offset).take y.sz, this with
                    | [v], _ => exact ⟨v, rfl⟩
                  have h0 : ((vs.drop fd.offset).take y.sz)[0]? = some v := by rw [hv1]; rfl
                  rw [hv1] at hsub
                  obtain ⟨_, r⟩ := R_agg_at hsub 0 (by simp)
                  refine ⟨v, run _ ?_, val_of_R r (by simpa using hna)⟩
                  unfold part
                  rw [Sem.run_bind, run_isAgg hut, Result.andThen_ok, if_neg (by rw [← ha]; exact hag)]
                  have : vs[fd.offset]? = some v := by
                    rw [List.getElem?_take] at h0
                    split at h0
                    · rw [List.getElem?_drop, Nat.add_zero] at h0; exact h0
                    · cases h0
                  simp [this]
              · cases h
          · cases h
        · cases h
      · cases h
    · cases h
  · cases h
theorem aop_call {c : Call} (hb : BoxesAt w g bx) (ho : o.op = .call c) (hp : ∀ x ∈ c.args.toList, val w g (vals x) (ρ x)) (h : aop P vals bx o = some d) : Yields P w g ρ o d := by
  simp only [aop, ho] at h
  split at h
  · rename_i hcal
    split at h
    · rename_i x t hargs htys
      have ha : c.args = #[x] := by rw [← Array.toArray_toList (xs := c.args), hargs]
      have ht : c.argTypes = #[t] := by rw [← Array.toArray_toList (xs := c.argTypes), htys]
      have hx := hp x (by rw [hargs]; exact List.mem_singleton_self x)
      have run : ∀ v, (Builtin.len_ #[t] o.type #[ρ x]).run P w = .ok v w → (execOp ρ o).run P w = .ok (.value v) w := by
        intro v hv
        unfold execOp
        simp only [ho, resolve, hcal, ha, ht, invoke, builtin, Sem.run_bind, Sem.run_pure, Result.andThen_ok, List.map_toArray, List.map_cons, List.map_nil, hv]
      split at h
      · rename_i e q n l hu hl
        cases h
        rw [hl] at hx
        obtain ⟨A, cap, cs, hv, hlc, hm, _⟩ := val_slice hx
        refine ⟨.int .i64 l.length, run _ ?_, val_of_R (.int _ _ ?_) rfl⟩
        · rw [hv]
          unfold Builtin.len_
          simp only [List.getElem?_toArray, List.getElem?_cons_zero]
          rw [Sem.run_bind, run_underlying hu, Result.andThen_ok]
          rfl
        · unfold inr
          simp only [IntKind.min, IntKind.max, IntKind.bits, IntKind.signed]
          simp
          omega
      · rename_i s hu hl
        cases h
        rw [hl] at hx
        obtain ⟨hv, hs⟩ := val_str hx
        refine ⟨.int .i64 s.size, run _ ?_, val_of_R (.int _ _ ?_) rfl⟩
        · rw [hv]
          unfold Builtin.len_
          simp only [List.getElem?_toArray, List.getElem?_cons_zero]
          rw [Sem.run_bind, run_underlying hu, Result.andThen_ok]
          rfl
        · unfold inr
          simp only [IntKind.min, IntKind.max, IntKind.bits, IntKind.signed]
          simp
          omega
      · rename_i kt et hu hl
        cases h
        rw [hl] at hx
        obtain ⟨cs, h1, hv⟩ := hx
        cases h1
        refine ⟨.int .i64 0, run _ ?_, val_of_R (.int _ _ (by decide)) rfl⟩
        rw [show ρ x = .map none from hv]
        unfold Builtin.len_
        simp only [List.getElem?_toArray, List.getElem?_cons_zero]
        rw [Sem.run_bind, run_underlying hu, Result.andThen_ok]
        rfl
      · rename_i kt et i hu hl
        rw [Option.map_eq_some_iff] at h
        obtain ⟨m, hm, h⟩ := h
        cases h
        rw [hl] at hx
        obtain ⟨cs, h1, hv⟩ := hx
        cases h1 with
        | mref _ b h0 hmp =>
        have := hb i m b hm h0
        rw [hmp] at this
        obtain ⟨es, clock, q1, q2, q3, _⟩ := this
        refine ⟨.int .i64 ((m.length / 2 : Nat) : Int), run _ ?_, val_of_R (.int _ _ ?_) rfl⟩
        · rw [show ρ x = .map (some b) from hv]
          unfold Builtin.len_
          simp only [List.getElem?_toArray, List.getElem?_cons_zero]
          rw [Sem.run_bind, run_underlying hu, Result.andThen_ok]
          dsimp only
          rw [Sem.run_bind, MapKept.run_getObj_map q1, Result.andThen_ok]
          rw [show m.length / 2 = es.size from by omega]
          rfl
        · unfold inr
          simp only [IntKind.min, IntKind.max, IntKind.bits, IntKind.signed]
          simp
          omega
      · cases h
    · cases h
  · rename_i hcal
    split at h
    · rename_i x y hargs
      have ha : c.args = #[x, y] := by rw [← Array.toArray_toList (xs := c.args), hargs]
      have hx := hp x (by rw [hargs]; exact List.mem_cons_self)
      have hy := hp y (by rw [hargs]; exact List.mem_cons_of_mem _ List.mem_cons_self)
      split at h
      · rename_i k a k' b e1 e2
        split at h
        · rename_i hk
          subst hk
          cases h
          rw [e1] at hx
          rw [e2] at hy
          obtain ⟨v1, i1⟩ := val_int hx
          obtain ⟨v2, i2⟩ := val_int hy
          refine ⟨.int k (if b > a then b else a), ?_, val_of_R (.int _ _ (by split <;> assumption)) rfl⟩
          unfold execOp
          simp only [ho, resolve, hcal, ha, invoke, builtin, Sem.run_bind, Sem.run_pure, Result.andThen_ok, List.map_toArray, List.map_cons, List.map_nil, v1, v2]
          rfl
        · cases h
      · cases h
    · cases h
  · rename_i hcal
    split at h
    · rename_i x y hargs
      have ha : c.args = #[x, y] := by rw [← Array.toArray_toList (xs := c.args), hargs]
      have hx := hp x (by rw [hargs]; exact List.mem_cons_self)
      have hy := hp y (by rw [hargs]; exact List.mem_cons_of_mem _ List.mem_cons_self)
      split at h
      · rename_i k a k' b e1 e2
        split at h
        · rename_i hk
          subst hk
          cases h
          rw [e1] at hx
          rw [e2] at hy
          obtain ⟨v1, i1⟩ := val_int hx
          obtain ⟨v2, i2⟩ := val_int hy
          refine ⟨.int k (if b < a then b else a), ?_, val_of_R (.int _ _ (by split <;> assumption)) rfl⟩
          unfold execOp
          simp only [ho, resolve, hcal, ha, invoke, builtin, Sem.run_bind, Sem.run_pure, Result.andThen_ok, List.map_toArray, List.map_cons, List.map_nil, v1, v2]
          rfl
        · cases h
      · cases h
    · cases h
  · cases h

/-- an operation that only reads does in memory what it does on data -/
theorem aop_sound (hv : ∀ x ∈ o.op.operands, val w g (vals x) (ρ x)) (hb : BoxesAt w g bx) (h : aop P vals bx o = some d) : Yields P w g ρ o d := by
  cases ho : o.op with
  | move x =>
    simp only [aop, ho] at h; cases h
    exact ⟨ρ x, by simp only [execOp, ho]; rfl, hv x (by simp [ho, Op.operands])⟩
  | assign x =>
    simp only [aop, ho] at h; cases h
    exact ⟨ρ x, by simp only [execOp, ho]; rfl, hv x (by simp [ho, Op.operands])⟩
  | pick c a b =>
    simp only [aop, ho] at h
    split at h
    · rename_i q hq
      have hc := hv c (by simp [ho, Op.operands])
      rw [hq] at hc
      have hcv := val_bool hc
      cases h
      refine ⟨if q then ρ a else ρ b, ?_, ?_⟩
      · simp only [execOp, ho, hcv, asBool, pure_bind]; rfl
      · cases q
        · exact hv b (by simp [ho, Op.operands])
        · exact hv a (by simp [ho, Op.operands])
    · cases h
  | load t a => exact aop_load ho hb (hv a (by simp [ho, Op.operands])) h
  | fieldAddr t x f => exact aop_field ho (hv x (by simp [ho, Op.operands])) h
  | indexAddr t x i => exact aop_index ho (hv x (by simp [ho, Op.operands])) (hv i (by simp [ho, Op.operands])) h
  | index t x i => exact aop_strindex ho (hv x (by simp [ho, Op.operands])) (hv i (by simp [ho, Op.operands])) h
  | binOp op t x y t' => exact aop_bin ho (hv x (by simp [ho, Op.operands])) (hv y (by simp [ho, Op.operands])) h
  | unOp op t x => exact aop_un ho (hv x (by simp [ho, Op.operands])) h
  | convert s t x => exact aop_convert ho (hv x (by simp [ho, Op.operands])) h
  | extract x i => exact aop_extract ho (hv x (by simp [ho, Op.operands])) h
  | nilCheck x => exact aop_nilCheck ho (hv x (by simp [ho, Op.operands])) h
  | slice t x lo hi mx => exact aop_slice ho (hv x (by simp [ho, Op.operands])) (fun y e => hv y (by simp [ho, Op.operands, e])) (fun y e => hv y (by simp [ho, Op.operands, e])) (fun y e => hv y (by simp [ho, Op.operands, e])) h
  | field t x f => exact aop_fieldv ho (hv x (by simp [ho, Op.operands])) h
  | lookup t x k cok => exact aop_lookup ho (hv x (by simp [ho, Op.operands])) (hv k (by simp [ho, Op.operands])) hb h
  | build t parts => exact aop_build ho (fun p hp => hv p.2 (by simp only [ho, Op.operands]; simpa using ⟨p.1, by simpa using hp⟩)) h
  | makeFunc fn first captured => exact aop_makeFunc ho (fun x hx => hv x (by simp only [ho, Op.operands, Array.mem_append]; exact .inr (by simpa using hx))) h
  | call c => exact aop_call hb ho (fun x hx => hv x (by simp only [ho, Op.operands, Call.operands, Array.mem_append]; exact .inr (by simpa using hx))) h
  | _ => simp [aop, ho] at h
end

end Go.Proofs.Ytjikokmhknnnoaa
