/- Operations that leave memory alone: addresses, numbers, strings. -/
import Derived.Test.YtjikokmhknnnoaaAmOp2
namespace Go.Proofs.Ytjikokmhknnnoaa
open Go.RowKit

section
variable {P : Program} {w : World} {g : Gh} {ρ : Operand → Value} {vals : Operand → D} {bx : Nat → Option (List D)} {o : Oper} {d : D}

theorem andThen_v {s : Sem Value} {v : Value} (h : s.run P w = .ok v w) : (do let x ← s; pure (Next.value x) : Sem Next).run P w = .ok (.value v) w := by
  show (s.bind _).run P w = _
  have := Sem.run_bind (P := P) (w := w) s (fun x => pure (Next.value x))
  rw [show (s.bind fun x => pure (Next.value x)) = (s >>= fun x => pure (Next.value x)) from rfl, this, h]
  rfl

theorem cellsOf_info {t : TypeId} (h : P.cellsOf t ≠ 0) : ∃ i, P.info? t = some i ∧ i.size = P.cellsOf t := by
  unfold Program.cellsOf at h ⊢
  cases hi : P.info? t with
  | none => rw [hi] at h; simp at h
  | some i => exact ⟨i, rfl, rfl⟩

theorem aop_field {t : TypeId} {x : Operand} {f : Nat} (ho : o.op = .fieldAddr t x f) (hv : val w g (vals x) (ρ x)) (h : aop P vals bx o = some d) : Yields P w g ρ o d := by
  simp only [aop, ho] at h
  split at h
  · cases h
  rename_i y hy
  obtain ⟨i, u, hi, hu, _, _, _, hf, _⟩ := tyOf_some hy
  split at h
  · cases h
  rename_i off size ag hfl
  split at h
  · cases h
  rename_i hsz
  rw [hf] at hfl
  cases u with
  | struct fs =>
    simp only [List.getElem?_map, Option.map_eq_some_iff] at hfl
    obtain ⟨fld, hfld, he⟩ := hfl
    simp only [Prod.mk.injEq] at he
    obtain ⟨rfl, rfl, rfl⟩ := he
    obtain ⟨fi, hfi, hfs⟩ := cellsOf_info hsz
    have key : ∀ b o', ρ x = .pointer (some ⟨b, o', none⟩) → (execOp ρ o).run P w = .ok (.value (.pointer (some ⟨b, o' + fld.offset, none⟩))) w := by
      intro b o' hp
      simp only [execOp, ho, hp]
      refine andThen_v ?_
      unfold Instr.fieldAt
      rw [Sem.run_bind, run_underlying hu, Result.andThen_ok]
      have hfa : fs[f]? = some fld := by simpa using hfld
      simp only [hfa, Instr.sureAddr, pure_bind]
      unfold fieldPlace
      rw [Sem.run_bind, Sem.run_bind, run_size hfi, Result.andThen_ok, if_neg (by omega), addr_plus]
      rfl
    split at h
    · rename_i j o' hx
      cases h
      rw [hx] at hv
      obtain ⟨b, hβ, hp⟩ := val_ptr hv
      exact ⟨_, key _ _ hp, val_of_R (.ptr _ _ b hβ.1 hβ.2) rfl⟩
    · rename_i l hx
      rw [hx] at hv
      obtain ⟨b, o', cs, hp, hr, hc⟩ := val_elem hv
      have hlen := R_agg_len hr
      have hsub := R_agg_sub hr fld.offset (P.cellsOf fld.type)
      have hcell : ∀ m u, ((cs.drop fld.offset).take (P.cellsOf fld.type))[m]? = some u → g.ok b (o' + fld.offset + m) ∧ w.cell? ⟨b, o' + fld.offset + m, none⟩ = some u := by
        intro m u hu
        rw [List.getElem?_take] at hu
        split at hu
        · rw [List.getElem?_drop] at hu
          rw [Nat.add_assoc]
          exact hc _ _ hu
        · cases hu
      split at h
      · split at h
        · cases h
          exact ⟨_, key _ _ hp, val_of_R (.elem _ b _ _ hsub hcell) rfl⟩
        · split at h
          · rename_i d0 hd0
            cases h
            rw [hd0] at hsub
            have hl1 := R_agg_len hsub
            obtain ⟨v, hv1⟩ : ∃ v, (cs.drop fld.offset).take (P.cellsOf fld.type) = [v] := by
              match hq : (cs.drop fld.offset).take (P.cellsOf fld.type), hl1 with
              | [v], _ => exact ⟨v, rfl⟩
            rw [hv1] at hsub hcell
            obtain ⟨_, r⟩ := R_agg_at hsub 0 (by simp)
            exact ⟨_, key _ _ hp, val_of_R (.elem _ b _ _ r hcell) rfl⟩
          · cases h
      · cases h
    · cases h
  | _ => simp at hfl

theorem val_slice {q : Own} {n : Nat} {l : List D} {v : Value} (h : val w g (.slice q n l) v) : ∃ (A : Option Addr) (cap : Nat) (cs : Nat → List Value), v = .slice A l.length cap ∧ l.length ≤ cap ∧ cap ≤ 9223372036854775807 ∧ (∀ s e, q = .own s e → g.ow s = some (.slice A l.length cap, e)) ∧ OwnOk q A l.length cap ∧ True ∧
    (∀ (j : Nat) (h : j < l.length), R w g l[j] (cs j)) ∧ (∀ j, j < l.length → (cs j).length = n) ∧
    (∀ j, j < l.length → ∃ b off, A = some ⟨b, off, none⟩ ∧ ∀ m u, (cs j)[m]? = some u → g.ok b (off + j * n + m) ∧ w.cell? ⟨b, off + j * n + m, none⟩ = some u) := by
  obtain ⟨cs, h1, rfl⟩ := h
  cases h1 with
  | slice _ _ _ A cap cs hl hm ho hnil hA h hn hc => exact ⟨A, cap, cs, rfl, hl, hm, ho, hnil, hA, h, hn, hc⟩

theorem aop_index {t : TypeId} {x i : Operand} (ho : o.op = .indexAddr t x i) (hx : val w g (vals x) (ρ x)) (hi : val w g (vals i) (ρ i)) (h : aop P vals bx o = some d) : Yields P w g ρ o d := by
  simp only [aop, ho] at h
  split at h
  · rename_i e hu
    split at h
    · rename_i q n l hx'
      split at h
      · rename_i k z hi'
        split at h
        · rename_i hc
          obtain ⟨h0, h1, h2, h3⟩ := hc
          rw [hx'] at hx
          rw [hi'] at hi
          obtain ⟨A, cap, cs, hv, hl, hm, _, _, _, hr, hn, hcell⟩ := val_slice hx
          obtain ⟨hiv, _⟩ := val_int hi
          have hlt : z.toNat < l.length := by omega
          rw [List.getElem?_eq_getElem hlt] at h
          cases h
          obtain ⟨b, off, rfl, hcl⟩ := hcell _ hlt
          obtain ⟨fi, hfi⟩ := Option.isSome_iff_exists.1 h3
          have hsz : fi.size = n := by rw [h2]; unfold Program.cellsOf; rw [hfi]; rfl
          refine ⟨.pointer (some ⟨b, off + z.toNat * n, none⟩), ?_, val_of_R (.elem _ _ _ _ (hr _ hlt) hcl) rfl⟩
          simp only [execOp, ho, hv, hiv]
          refine andThen_v ?_
          unfold Instr.indexAt
          simp only [asIntOf, pure_bind]
          rw [Sem.run_bind, run_underlying hu, Result.andThen_ok]
          dsimp only
          rw [Sem.run_bind, run_underlying hu, Result.andThen_ok, if_pos ⟨h0, h1⟩, Sem.run_bind, run_size hfi, Result.andThen_ok, addr_plus, hsz]
          rfl
        · cases h
      · cases h
    · cases h
  · cases h

theorem aop_strindex {t : TypeId} {x i : Operand} (ho : o.op = .index t x i) (hx : val w g (vals x) (ρ x)) (hi : val w g (vals i) (ρ i)) (h : aop P vals bx o = some d) : Yields P w g ρ o d := by
  simp only [aop, ho] at h
  split at h
  · rename_i hu
    split at h
    · rename_i s hx'
      split at h
      · rename_i k z hi'
        split at h
        · rename_i h0
          rw [hx'] at hx
          rw [hi'] at hi
          obtain ⟨hv, _⟩ := val_str hx
          obtain ⟨hiv, _⟩ := val_int hi
          cases hb : s[z.toNat]? with
          | none => rw [hb] at h; cases h
          | some b =>
            rw [hb] at h
            cases h
            refine ⟨.int .u8 b.toNat, ?_, val_of_R (.int _ _ ?_) rfl⟩
            · simp only [execOp, ho, hv, hiv]
              refine andThen_v ?_
              unfold Instr.index
              simp only [asIntOf, pure_bind]
              rw [Sem.run_bind, run_underlying hu, Result.andThen_ok]
              simp only [h0, if_true, hb]
              rfl
            · have := b.toNat_lt
              unfold inr
              simp only [IntKind.min, IntKind.max, IntKind.bits, IntKind.signed]
              simp
              omega
        · cases h
      · cases h
    · cases h
  · cases h

theorem aint_sound {op : BinOp} {k : IntKind} {a b : Int} (ha : inr k a) (_hb : inr k b) {t : TypeId} (h : aint op k a b = some d) : ∃ v, (Go.binOp op t (.int k a) (.int k b)).run P w = .ok v w ∧ val w g d v := by
  cases op <;> simp only [aint] at h <;> (try split at h) <;> (try cases h) <;>
    first
      | exact ⟨_, by simp only [Go.binOp, Op.intArith, ne_eq, not_true_eq_false, if_false]; rfl, val_of_R (.int _ _ (wrap_inr _ _)) rfl⟩
      | exact ⟨_, by simp only [Go.binOp, Op.intCmp, ne_eq, not_true_eq_false, if_false]; rfl, val_of_R (.bool _) rfl⟩
      | exact ⟨_, by simp only [Go.binOp, Op.intDiv, ne_eq, not_true_eq_false, if_false]; rw [if_neg ‹_›]; rfl, val_of_R (.int _ _ (wrap_inr _ _)) rfl⟩
      | exact ⟨_, by simp only [Go.binOp, Op.intDiv, ne_eq, not_true_eq_false, if_false]; rw [if_neg ‹_›]; rfl, val_of_R (.int _ _ (tmod_inr ha)) rfl⟩
      | exact ⟨_, by simp only [Go.binOp, Op.intBits, ne_eq, not_true_eq_false, if_false]; rfl, val_of_R (.int _ _ (wrap_inr _ _)) rfl⟩

theorem astr_sound {op : BinOp} {a b : ByteArray} {t : TypeId} (h : astr op a b = some d) : ∃ v, (Go.binOp op t (.string a) (.string b)).run P w = .ok v w ∧ val w g d v := by
  cases op <;> simp only [astr] at h <;> (try split at h) <;> (try cases h) <;>
    first
      | exact ⟨_, by simp only [Go.binOp, Op.stringOp]; rfl, val_of_R (.bool _) rfl⟩
      | skip
  rename_i hs
  refine ⟨.string (a ++ b), ?_, val_of_R (.str _ (by rw [ByteArray.size_append]; exact hs)) rfl⟩
  simp only [Go.binOp, Op.stringOp]
  rw [if_neg (by simp only [IntKind.max, IntKind.bits, IntKind.signed]; simp; omega)]
  rfl

theorem scEq_sound {t : TypeId} {x y : D} {u v : Value} {r : Bool} (n : Nat) (hx : R w g x [u]) (hy : R w g y [v]) (h : scEq P t x y = some r) : (isAgg t).run P w = .ok false w ∧ (Op.equalIn (n + 1) t u v).run P w = .ok r w := by
  unfold scEq at h
  split at h
  · rename_i k0 k a k' b hu
    split at h
    · rename_i hk
      subst hk
      cases h
      cases (R_int hx).1
      cases (R_int hy).1
      exact ⟨by rw [run_isAgg hu]; rfl, run_equalIn_int w n t k k0 a b hu⟩
    · cases h
  · rename_i a b hu
    cases h
    cases R_bool hx
    cases R_bool hy
    exact ⟨by rw [run_isAgg hu]; rfl, run_equalIn_bool' w n t a b hu⟩
  · rename_i a b hu
    cases h
    cases (R_str hx).1
    cases (R_str hy).1
    exact ⟨by rw [run_isAgg hu]; rfl, run_equalIn_string w n t a b hu⟩
  · cases h
theorem aggEq_sound {xs ys : List D} {us vs : List Value} (n : Nat) (hx : R w g (.agg xs) us) (hy : R w g (.agg ys) vs) : ∀ {fs : List Field} {r : Bool}, aggEq P xs ys fs = some r → (Op.eqFields (n + 1) us.toArray vs.toArray fs).run P w = .ok r w
  | [], r, h => by cases h; rfl
  | f :: fs, r, h => by
    unfold aggEq at h
    split at h
    · cases h
    rename_i hn
    split at h
    · rename_i a b ha hb
      split at h
      · rename_i r1 q h1 h2
        cases h
        have ih := aggEq_sound n hx hy h2
        obtain ⟨la, ea⟩ := List.getElem?_eq_some_iff.1 ha
        obtain ⟨lb, eb⟩ := List.getElem?_eq_some_iff.1 hb
        obtain ⟨la', ra⟩ := R_agg_at hx _ la
        obtain ⟨lb', rb⟩ := R_agg_at hy _ lb
        rw [ea] at ra
        rw [eb] at rb
        obtain ⟨q1, q2⟩ := scEq_sound (P := P) n ra rb h1
        have p1 : (part f.type us.toArray f.offset).run P w = .ok us[f.offset] w := by
          unfold part; rw [Sem.run_bind, q1, Result.andThen_ok]; simp [la']
        have p2 : (part f.type vs.toArray f.offset).run P w = .ok vs[f.offset] w := by
          unfold part; rw [Sem.run_bind, q1, Result.andThen_ok]; simp [lb']
        unfold Op.eqFields
        rw [if_pos hn, Sem.run_bind, p1, Result.andThen_ok, Sem.run_bind, p2, Result.andThen_ok, Sem.run_bind, q2, Result.andThen_ok]
        cases r1
        · rfl
        · simpa using ih
      · cases h
    · cases h

theorem aop_bin {op : BinOp} {t t' : TypeId} {x y : Operand} (ho : o.op = .binOp op t x y t') (hx : val w g (vals x) (ρ x)) (hy : val w g (vals y) (ρ y)) (h : aop P vals bx o = some d) : Yields P w g ρ o d := by
  simp only [aop, ho] at h
  have fin : ∀ v, (eqGuard op t x y (ρ x) (ρ y)).run P w = .ok () w → (Go.binOp op t (ρ x) (ρ y)).run P w = .ok v w → (execOp ρ o).run P w = .ok (.value v) w := by
    intro v h1 h2
    simp only [execOp, ho]
    refine andThen_v ?_
    rw [Sem.run_bind, h1, Result.andThen_ok, h2]
  unfold abin at h
  split at h
  · rename_i k a k' b e1 e2
    split at h
    · rename_i hk
      subst hk
      rw [e1] at hx
      rw [e2] at hy
      obtain ⟨v1, i1⟩ := val_int hx
      obtain ⟨v2, i2⟩ := val_int hy
      obtain ⟨v, hr, hv⟩ := aint_sound (P := P) (w := w) (g := g) i1 i2 (t := t) h
      refine ⟨v, fin v ?_ (by rw [v1, v2]; exact hr), hv⟩
      rw [v1, v2]; unfold eqGuard; split <;> rfl
    · cases h
  · rename_i a b e1 e2
    rw [e1] at hx
    rw [e2] at hy
    obtain ⟨v1, _⟩ := val_str hx
    obtain ⟨v2, _⟩ := val_str hy
    obtain ⟨v, hr, hv⟩ := astr_sound (P := P) (w := w) (g := g) (t := t) h
    refine ⟨v, fin v ?_ (by rw [v1, v2]; exact hr), hv⟩
    rw [v1, v2]; unfold eqGuard; split <;> rfl
  · rename_i a b e1 e2
    rw [e1] at hx
    rw [e2] at hy
    have v1 := val_bool hx
    have v2 := val_bool hy
    split at h
    · rename_i hu
      have heq : (Op.equal t (.bool a) (.bool b)).run P w = .ok (a == b) w := by
        unfold Op.equal Op.maxDepth Op.equalIn
        rw [Sem.run_bind, run_underlying hu, Result.andThen_ok]; rfl
      split at h
      · cases h
        refine ⟨.bool (a == b), fin _ ?_ ?_, val_of_R (.bool _) rfl⟩
        · rw [v1, v2]; unfold eqGuard; rfl
        · rw [v1, v2]; simp only [Go.binOp]; rw [Sem.run_bind, heq]; rfl
      · cases h
        refine ⟨.bool (!(a == b)), fin _ ?_ ?_, val_of_R (.bool _) rfl⟩
        · rw [v1, v2]; unfold eqGuard; rfl
        · rw [v1, v2]; simp only [Go.binOp]; rw [Sem.run_bind, heq]; rfl
      · cases h
    · cases h
  · rename_i q n l n' e1 e2
    rw [e1] at hx
    rw [e2] at hy
    obtain ⟨A, cap, cs, v1, hl, hm, _, hnil, hA, _, _, hc⟩ := val_slice hx
    obtain ⟨A', cap', cs', v2, _, _, _, hnil', _, _, _, _⟩ := val_slice hy
    obtain ⟨rfl, rfl⟩ := hnil'
    split at h
    · rename_i e hu
      have heq : (Op.equal t (.slice A l.length cap) (.slice none ([] : List D).length 0)).run P w = .ok A.isNone w := by
        unfold Op.equal Op.maxDepth Op.equalIn
        rw [Sem.run_bind, run_underlying hu, Result.andThen_ok]
        cases A <;> rfl
      have hAn : (l = [] → q = .nil) → A.isNone = decide (l = []) := by
        intro hq
        cases l with
        | nil =>
          have hq' := hq rfl
          subst hq'
          obtain ⟨rfl, _⟩ := hnil; rfl
        | cons a r => obtain ⟨b, off, rfl, _⟩ := hc 0 (by simp); rfl
      have hAs : q = .nn → A.isNone = false := by
        intro hq
        subst hq
        have hnil' : A.isSome = true := hnil
        cases A <;> first | rfl | cases hnil'
      have fz : ∀ (b : Bool), (eqGuard op t x y (ρ x) (ρ y)).run P w = .ok () w := by
        intro _; rw [v1, v2]; unfold eqGuard; split <;> rfl
      split at h
      · split at h
        · rename_i hl0
          split at h
          · rename_i hq
            cases h
            refine ⟨.bool true, fin _ (fz true) ?_, val_of_R (.bool _) rfl⟩
            rw [v1, v2]; simp only [Go.binOp]; rw [Sem.run_bind, heq, hAn (fun _ => hq)]; simp [hl0]
          · split at h
            · rename_i hq
              cases h
              refine ⟨.bool false, fin _ (fz true) ?_, val_of_R (.bool _) rfl⟩
              rw [v1, v2]; simp only [Go.binOp]; rw [Sem.run_bind, heq, hAs hq]; rfl
            · cases h
        · rename_i hl0
          cases h
          refine ⟨.bool false, fin _ (fz true) ?_, val_of_R (.bool _) rfl⟩
          rw [v1, v2]; simp only [Go.binOp]; rw [Sem.run_bind, heq, hAn (fun e => absurd e hl0)]; simp [hl0]
      · split at h
        · rename_i hl0
          split at h
          · rename_i hq
            cases h
            refine ⟨.bool false, fin _ (fz true) ?_, val_of_R (.bool _) rfl⟩
            rw [v1, v2]; simp only [Go.binOp]; rw [Sem.run_bind, heq, hAn (fun _ => hq)]; simp [hl0]
          · split at h
            · rename_i hq
              cases h
              refine ⟨.bool true, fin _ (fz true) ?_, val_of_R (.bool _) rfl⟩
              rw [v1, v2]; simp only [Go.binOp]; rw [Sem.run_bind, heq, hAs hq]; rfl
            · cases h
        · rename_i hl0
          cases h
          refine ⟨.bool true, fin _ (fz true) ?_, val_of_R (.bool _) rfl⟩
          rw [v1, v2]; simp only [Go.binOp]; rw [Sem.run_bind, heq, hAn (fun e => absurd e hl0)]; simp [hl0]
      · cases h
    · cases h
  · rename_i l m e1 e2
    rw [e1] at hx
    rw [e2] at hy
    obtain ⟨us, v1, r1⟩ := val_agg hx
    obtain ⟨vs, v2, r2⟩ := val_agg hy
    split at h
    · rename_i fs hu
      split at h
      · rename_i hc
        have hf : P.fieldsOf t = fs := by simp [Program.fieldsOf, hu]
        split at h
        · rename_i r hr
          cases h
          have he := aggEq_sound (P := P) 9998 r1 r2 hr
          refine ⟨.bool r, fin _ ?_ ?_, val_of_R (.bool _) rfl⟩
          · rw [v1, v2]; exact run_eqGuard_agg w _ t x y _ _ hc.2
          · rw [v1, v2, run_eql_struct, run_equalIn_agg w 9999 t _ _ (by rw [hf]; exact hu) hc.1, hf, he]; rfl
        · rename_i r hr
          cases h
          have he := aggEq_sound (P := P) 9998 r1 r2 hr
          refine ⟨.bool !r, fin _ ?_ ?_, val_of_R (.bool _) rfl⟩
          · rw [v1, v2]; exact run_eqGuard_agg w _ t x y _ _ hc.2
          · rw [v1, v2, run_neq_struct, run_equalIn_agg w 9999 t _ _ (by rw [hf]; exact hu) hc.1, hf, he]; rfl
        · cases h
      · cases h
    · cases h
  · cases h
end

end Go.Proofs.Ytjikokmhknnnoaa
