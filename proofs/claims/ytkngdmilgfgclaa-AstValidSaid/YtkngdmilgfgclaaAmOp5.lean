/- Operations that leave memory alone: structs, and all of them together. -/
import Derived.Test.YtkngdmilgfgclaaAmOp4
namespace Go.Proofs.Ytkngdmilgfgclaa
open Go.RowKit

section
variable {P : Program} {w : World} {g : Gh} {ρ : Operand → Value} {vals : Operand → D} {bx : Nat → Option (List D)} {o : Oper} {d : D}

theorem fold_splice (off : Nat) : ∀ (cs : List Value) (i : Nat) (a : Array Value), off + i + cs.length ≤ a.size →
    ((cs.zipIdx i).foldl (fun (q : Array Value) (x : Value × Nat) => q.setIfInBounds (off + x.2) x.1) a).toList = a.toList.take (off + i) ++ cs ++ a.toList.drop (off + i + cs.length)
  | [], i, a, h => by simp
  | c :: r, i, a, h => by
    simp only [List.length_cons] at h
    rw [List.zipIdx_cons, List.foldl_cons, fold_splice off r (i + 1) _ (by simp; omega)]
    have hlt : off + i < a.toList.length := by simp; omega
    simp only [Array.toList_setIfInBounds, List.length_cons]
    have e1 : (a.toList.set (off + i) c).take (off + (i + 1)) = a.toList.take (off + i) ++ [c] := by
      rw [show off + (i + 1) = off + i + 1 from by omega, List.take_succ_eq_append_getElem (by simpa using hlt), List.getElem_set_self, List.take_set_of_le (by omega)]
    have e2 : (a.toList.set (off + i) c).drop (off + (i + 1) + r.length) = a.toList.drop (off + i + (r.length + 1)) := by
      rw [List.drop_set_of_lt (by omega)]
      congr 1; omega
    rw [e1, e2]
    simp

theorem afill_sound {flds : Nat → Option (Nat × Nat)} : ∀ {parts : List (Nat × Operand)} {cells : List D} {vs : List Value} {l : List D}, R w g (.agg cells) vs → (∀ p ∈ parts, val w g (vals p.2) (ρ p.2)) → afill flds cells (parts.map fun p => (p.1, vals p.2)) = some l →
    ∃ us, Instr.fill flds vs.toArray (parts.map fun p => (p.1, ρ p.2)) = some us ∧ R w g (.agg l) us.toList
  | [], cells, vs, l, hr, _, h => by
    simp only [List.map_nil, afill] at h
    cases h
    exact ⟨_, rfl, hr⟩
  | (i, x) :: rest, cells, vs, l, hr, hp, h => by
    simp only [List.map_cons, afill] at h
    split at h
    · cases h
    rename_i off size hf
    split at h
    · rename_i hc
      obtain ⟨hg, hl, hle⟩ := hc
      have hv := hp (i, x) List.mem_cons_self
      have hR := (hv.to1 hg).val_cells
      have hlen := R_agg_len hr
      have hcl : (ρ x).cells.size = size := by rw [← hl, ← hR.len]; simp
      have hnew : R w g (.agg (cells.take off ++ (vals x).cells ++ cells.drop (off + size))) (vs.take off ++ (ρ x).cells.toList ++ vs.drop (off + size)) := by
        refine R_agg_append (R_agg_append ?_ hR.cell) ?_
        · have := R_agg_sub hr 0 off; simpa using this
        · have := R_agg_sub hr (off + size) (cells.length - (off + size))
          rw [List.take_of_length_le (by simp), List.take_of_length_le (by simp; omega)] at this
          exact this
      obtain ⟨us, h1, h2⟩ := afill_sound hnew (fun p hp' => hp p (List.mem_cons_of_mem _ hp')) h
      refine ⟨us, ?_, h2⟩
      simp only [List.map_cons, Instr.fill, hf]
      rw [if_neg (by simp only [hcl, ne_eq, not_true_eq_false, decide_false, Bool.false_or, decide_eq_true_eq, List.size_toArray]; omega)]
      have := fold_splice off (ρ x).cells.toList 0 vs.toArray (by simp only [Array.length_toList, List.size_toArray]; omega)
      have e : ((ρ x).cells.zipIdx.foldl (fun (q : Array Value) (x : Value × Nat) => q.setIfInBounds (off + x.2) x.1) vs.toArray) = (vs.take off ++ (ρ x).cells.toList ++ vs.drop (off + size)).toArray := by
        apply Array.toList_inj.1
        rw [← Array.foldl_toList, Array.toList_zipIdx, this]
        simp [hcl]
      rw [← h1, ← e]
    · cases h

theorem places_of : ∀ {fs : List Field}, fs.all (fun f => (P.info? f.type).isSome) = true → fs.mapM (fun f => (P.info? f.type).map fun i => (f.offset, i.size)) = some (fs.map fun f => (f.offset, P.cellsOf f.type))
  | [], _ => rfl
  | f :: fs, h => by
    simp only [List.all_cons, Bool.and_eq_true] at h
    obtain ⟨i, hi⟩ := Option.isSome_iff_exists.1 h.1
    rw [List.mapM_cons, places_of h.2, hi]
    simp [Program.cellsOf, hi]

theorem aop_build {t : TypeId} {parts : Array (Nat × Operand)} (ho : o.op = .build t parts) (hp : ∀ p ∈ parts.toList, val w g (vals p.2) (ρ p.2)) (h : aop P vals bx o = some d) : Yields P w g ρ o d := by
  simp only [aop, ho] at h
  split at h
  · rename_i y fs hy hu
    split at h
    · rename_i hall
      split at h
      · rename_i z hz
        obtain ⟨i, u, hi, hu', _, _, hzero, hfl, _⟩ := tyOf_some hy
        rw [hu] at hu'
        cases hu'
        rw [hzero] at hz
        cases hzz : i.zero with
        | none => rw [hzz] at hz; cases hz
        | some zv =>
          rw [hzz] at hz
          simp only [Option.bind_some] at hz
          cases hf : afill (fun i => (y.flds[i]?).map fun f => (f.1, f.2.1)) z (parts.toList.map fun p => (p.1, vals p.2)) with
          | none => rw [hf] at h; cases h
          | some l =>
            rw [hf] at h
            cases h
            obtain ⟨us, h1, h2⟩ := afill_sound (ofCells_R hz) hp hf
            refine ⟨.agg us, ?_, val_of_agg h2⟩
            simp only [execOp, ho]
            refine andThen_v ?_
            refine run_build w t _ us ?_
            unfold Program.built
            simp only [hi, hu, hzz, places_of hall]
            have e1 : (fun i : Nat => (y.flds[i]?).map fun f : Nat × Nat × Bool => (f.1, f.2.1)) = fun i : Nat => (fs.toList.map fun f => (f.offset, P.cellsOf f.type)).toArray[i]? := by
              funext k
              rw [hfl]
              simp only [List.getElem?_map, Option.map_map, List.getElem?_toArray]
              rfl
            rw [e1] at h1
            rw [← h1]
            congr 1
            simp
      · cases h
    · cases h
  · cases h

theorem aop_makeFunc {fn : Fn} {first captured : Array Operand} (ho : o.op = .makeFunc fn first captured) (hp : ∀ x ∈ captured.toList, val w g (vals x) (ρ x)) (h : aop P vals bx o = some d) : Yields P w g ρ o d := by
  simp only [aop, ho] at h
  split at h
  · rename_i f
    split at h
    · rename_i hc
      cases h
      have hf : first = #[] := by simpa using hc.1
      subst hf
      refine ⟨.func (.func f) #[] (captured.toList.map ρ).toArray, ?_, val_of_R (.fn f _ _ (by simp) (fun d hd => by have := List.all_eq_true.1 hc.2 d hd; simp only [Bool.and_eq_true, Bool.not_eq_true'] at this; exact this.2) (fun j h1 h2 => ?_)) rfl⟩
      · simp only [execOp, ho]
        refine andThen_v ?_
        simp only [Instr.makeFunc, Sem.run_pure, Array.map_empty, Result.ok.injEq, Value.func.injEq, true_and, and_true]
        apply Array.toList_inj.1
        simp
      · simp only [List.getElem_map]
        have hm : captured.toList[j]'(by simpa using h1) ∈ captured.toList := List.getElem_mem _
        have hall := List.all_eq_true.1 hc.2 _ (List.mem_map_of_mem hm)
        generalize captured.toList[j]'(by simpa using h1) = x at hm hall ⊢
        simp only [Bool.and_eq_true, Bool.not_eq_true'] at hall
        obtain ⟨cs, hr, hpk⟩ := (hp _ hm).to1 hall.1
        obtain ⟨v', rfl, _⟩ := hr.single hall.2
        have : ρ x = v' := by
          rw [hpk]
          have := hall.2
          cases hq : vals x <;> rw [hq] at this <;> first | rfl | simp [D.isAgg] at this
        rw [this]
        exact hr
    · cases h
  · cases h

theorem aop_call {c : Call} (ho : o.op = .call c) (hp : ∀ x ∈ c.args.toList, val w g (vals x) (ρ x)) (h : aop P vals bx o = some d) : Yields P w g ρ o d := by
  simp only [aop, ho] at h
  split at h
  · rename_i hcal
    split at h
    · rename_i x t hargs htys
      have ha : c.args = #[x] := by rw [← Array.toArray_toList (xs := c.args), hargs]
      have ht : c.argTypes = #[t] := by rw [← Array.toArray_toList (xs := c.argTypes), htys]
      have hx := hp x (by rw [hargs]; exact List.mem_singleton_self x)
      have run : ∀ v, (Builtin.len_ #[t] o.type #[ρ x]).run P w = .ok v w → (execOp ρ o).run P w = .ok (.value v) w := by
        intro v hv
        unfold execOp
        simp only [ho, resolve, hcal, ha, ht, invoke, builtin, Sem.run_bind, Sem.run_pure, Result.andThen_ok, List.map_toArray, List.map_cons, List.map_nil, hv]
      split at h
      · rename_i e q n l hu hl
        cases h
        rw [hl] at hx
        obtain ⟨A, cap, cs, hv, hlc, hm, _⟩ := val_slice hx
        refine ⟨.int .i64 l.length, run _ ?_, val_of_R (.int _ _ ?_) rfl⟩
        · rw [hv]
          unfold Builtin.len_
          simp only [List.getElem?_toArray, List.getElem?_cons_zero]
          rw [Sem.run_bind, run_underlying hu, Result.andThen_ok]
          rfl
        · unfold inr
          simp only [IntKind.min, IntKind.max, IntKind.bits, IntKind.signed]
          simp
          omega
      · rename_i s hu hl
        cases h
        rw [hl] at hx
        obtain ⟨hv, hs⟩ := val_str hx
        refine ⟨.int .i64 s.size, run _ ?_, val_of_R (.int _ _ ?_) rfl⟩
        · rw [hv]
          unfold Builtin.len_
          simp only [List.getElem?_toArray, List.getElem?_cons_zero]
          rw [Sem.run_bind, run_underlying hu, Result.andThen_ok]
          rfl
        · unfold inr
          simp only [IntKind.min, IntKind.max, IntKind.bits, IntKind.signed]
          simp
          omega
      · cases h
    · cases h
  · rename_i hcal
    split at h
    · rename_i x y hargs
      have ha : c.args = #[x, y] := by rw [← Array.toArray_toList (xs := c.args), hargs]
      have hx := hp x (by rw [hargs]; exact List.mem_cons_self)
      have hy := hp y (by rw [hargs]; exact List.mem_cons_of_mem _ List.mem_cons_self)
      split at h
      · rename_i k a k' b e1 e2
        split at h
        · rename_i hk
          subst hk
          cases h
          rw [e1] at hx
          rw [e2] at hy
          obtain ⟨v1, i1⟩ := val_int hx
          obtain ⟨v2, i2⟩ := val_int hy
          refine ⟨.int k (if b > a then b else a), ?_, val_of_R (.int _ _ (by split <;> assumption)) rfl⟩
          unfold execOp
          simp only [ho, resolve, hcal, ha, invoke, builtin, Sem.run_bind, Sem.run_pure, Result.andThen_ok, List.map_toArray, List.map_cons, List.map_nil, v1, v2]
          rfl
        · cases h
      · cases h
    · cases h
  · rename_i hcal
    split at h
    · rename_i x y hargs
      have ha : c.args = #[x, y] := by rw [← Array.toArray_toList (xs := c.args), hargs]
      have hx := hp x (by rw [hargs]; exact List.mem_cons_self)
      have hy := hp y (by rw [hargs]; exact List.mem_cons_of_mem _ List.mem_cons_self)
      split at h
      · rename_i k a k' b e1 e2
        split at h
        · rename_i hk
          subst hk
          cases h
          rw [e1] at hx
          rw [e2] at hy
          obtain ⟨v1, i1⟩ := val_int hx
          obtain ⟨v2, i2⟩ := val_int hy
          refine ⟨.int k (if b < a then b else a), ?_, val_of_R (.int _ _ (by split <;> assumption)) rfl⟩
          unfold execOp
          simp only [ho, resolve, hcal, ha, invoke, builtin, Sem.run_bind, Sem.run_pure, Result.andThen_ok, List.map_toArray, List.map_cons, List.map_nil, v1, v2]
          rfl
        · cases h
      · cases h
    · cases h
  · cases h

/-- an operation that only reads does in memory what it does on data -/
theorem aop_sound (hv : ∀ x ∈ o.op.operands, val w g (vals x) (ρ x)) (hb : BoxesAt w g bx) (h : aop P vals bx o = some d) : Yields P w g ρ o d := by
  cases ho : o.op with
  | move x =>
    simp only [aop, ho] at h; cases h
    exact ⟨ρ x, by simp only [execOp, ho]; rfl, hv x (by simp [ho, Op.operands])⟩
  | assign x =>
    simp only [aop, ho] at h; cases h
    exact ⟨ρ x, by simp only [execOp, ho]; rfl, hv x (by simp [ho, Op.operands])⟩
  | pick c a b =>
    simp only [aop, ho] at h
    split at h
    · rename_i q hq
      have hc := hv c (by simp [ho, Op.operands])
      rw [hq] at hc
      have hcv := val_bool hc
      cases h
      refine ⟨if q then ρ a else ρ b, ?_, ?_⟩
      · simp only [execOp, ho, hcv, asBool, pure_bind]; rfl
      · cases q
        · exact hv b (by simp [ho, Op.operands])
        · exact hv a (by simp [ho, Op.operands])
    · cases h
  | load t a => exact aop_load ho hb (hv a (by simp [ho, Op.operands])) h
  | fieldAddr t x f => exact aop_field ho (hv x (by simp [ho, Op.operands])) h
  | indexAddr t x i => exact aop_index ho (hv x (by simp [ho, Op.operands])) (hv i (by simp [ho, Op.operands])) h
  | index t x i => exact aop_strindex ho (hv x (by simp [ho, Op.operands])) (hv i (by simp [ho, Op.operands])) h
  | binOp op t x y t' => exact aop_bin ho (hv x (by simp [ho, Op.operands])) (hv y (by simp [ho, Op.operands])) h
  | unOp op t x => exact aop_un ho (hv x (by simp [ho, Op.operands])) h
  | convert s t x => exact aop_convert ho (hv x (by simp [ho, Op.operands])) h
  | extract x i => exact aop_extract ho (hv x (by simp [ho, Op.operands])) h
  | nilCheck x => exact aop_nilCheck ho (hv x (by simp [ho, Op.operands])) h
  | slice t x lo hi mx => exact aop_slice ho (hv x (by simp [ho, Op.operands])) (fun y e => hv y (by simp [ho, Op.operands, e])) (fun y e => hv y (by simp [ho, Op.operands, e])) h
  | build t parts => exact aop_build ho (fun p hp => hv p.2 (by simp only [ho, Op.operands]; simpa using ⟨p.1, by simpa using hp⟩)) h
  | makeFunc fn first captured => exact aop_makeFunc ho (fun x hx => hv x (by simp only [ho, Op.operands, Array.mem_append]; exact .inr (by simpa using hx))) h
  | call c => exact aop_call ho (fun x hx => hv x (by simp only [ho, Op.operands, Call.operands, Array.mem_append]; exact .inr (by simpa using hx))) h
  | _ => simp [aop, ho] at h
end

end Go.Proofs.Ytkngdmilgfgclaa
