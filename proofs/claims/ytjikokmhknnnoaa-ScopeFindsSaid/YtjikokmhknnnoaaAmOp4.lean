/- Operations that leave memory alone: the rest, and all of them together. -/
import Derived.Test.YtjikokmhknnnoaaAmOp3
import Derived.Laws.Tables
namespace Go.Proofs.Ytjikokmhknnnoaa
open Go.RowKit

section
variable {P : Program} {w : World} {g : Gh} {ρ : Operand → Value} {vals : Operand → D} {bx : Nat → Option (List D)} {o : Oper} {d : D}

theorem aop_un {op : UnOp} {t : TypeId} {x : Operand} (ho : o.op = .unOp op t x) (hx : val w g (vals x) (ρ x)) (h : aop P vals bx o = some d) : Yields P w g ρ o d := by
  simp only [aop, ho] at h
  split at h
  · rename_i b hb
    cases h
    rw [hb] at hx
    refine ⟨.bool !b, ?_, val_of_R (.bool _) rfl⟩
    simp only [execOp, ho, val_bool hx]; rfl
  · rename_i k n hb
    cases h
    rw [hb] at hx
    refine ⟨.int k (k.wrap (0 - n)), ?_, val_of_R (.int _ _ (wrap_inr _ _)) rfl⟩
    simp only [execOp, ho, (val_int hx).1]; rfl
  · cases h

theorem aop_convert {s t : TypeId} {x : Operand} (ho : o.op = .convert s t x) (hx : val w g (vals x) (ρ x)) (h : aop P vals bx o = some d) : Yields P w g ρ o d := by
  simp only [aop, ho] at h
  split at h
  · rename_i u k k' n hu ht hb
    cases h
    rw [hb] at hx
    refine ⟨.int k (k.wrap n), ?_, val_of_R (.int _ _ (wrap_inr _ _)) rfl⟩
    simp only [execOp, ho, (val_int hx).1]
    refine andThen_v ?_
    unfold convert
    rw [Sem.run_bind, run_underlying hu, Result.andThen_ok, Sem.run_bind, run_underlying ht, Result.andThen_ok]
    rfl
  · rename_i u s0 hu ht hb
    cases h
    rw [hb] at hx
    refine ⟨.string s0, ?_, val_of_R (.str _ (val_str hx).2) rfl⟩
    simp only [execOp, ho, (val_str hx).1]
    refine andThen_v ?_
    unfold convert
    rw [Sem.run_bind, run_underlying hu, Result.andThen_ok, Sem.run_bind, run_underlying ht, Result.andThen_ok]
    rfl
  · cases h

theorem aop_extract {x : Operand} {i : Nat} (ho : o.op = .extract x i) (hx : val w g (vals x) (ρ x)) (h : aop P vals bx o = some d) : Yields P w g ρ o d := by
  simp only [aop, ho] at h
  split at h
  · rename_i l hl
    rw [hl] at hx
    obtain ⟨vs, hv, hlen, hj⟩ := hx
    obtain ⟨hi, e⟩ := List.getElem?_eq_some_iff.1 h
    have hi' : i < vs.length := by omega
    refine ⟨vs[i], ?_, by have := hj i hi hi'; rw [e] at this; exact val.of1 this⟩
    simp only [execOp, ho, hv]
    refine andThen_v ?_
    simp [Instr.extract, hi']
  · cases h

theorem aop_nilCheck {x : Operand} (ho : o.op = .nilCheck x) (hx : val w g (vals x) (ρ x)) (h : aop P vals bx o = some d) : Yields P w g ρ o d := by
  simp only [aop, ho] at h
  split at h
  · rename_i i off hb
    cases h
    rw [hb] at hx
    obtain ⟨b, _, hp⟩ := val_ptr hx
    refine ⟨_, ?_, hx⟩
    simp only [execOp, ho, hp]; rfl
  · rename_i e hb
    cases h
    rw [hb] at hx
    obtain ⟨b, off, cs, hp, _, _⟩ := val_elem hx
    refine ⟨_, ?_, hx⟩
    simp only [execOp, ho, hp]; rfl
  · cases h

theorem idx_run {d : D} {hi n : Nat} {v : Value} {code : BoundsCode} {y : Nat} (h : idx d 0 hi = some n) (hv : val w g d v) (hy : hi ≤ y) : (Instr.sliceBound v y code).run P w = .ok n w ∧ n ≤ hi := by
  unfold idx at h
  split at h
  · rename_i k i
    split at h
    · rename_i hc
      cases h
      rw [(val_int hv).1]
      refine ⟨?_, by omega⟩
      unfold Instr.sliceBound
      simp only [asIntOf, pure_bind]
      rw [if_pos ⟨by omega, by omega⟩]; rfl
    · cases h
  · cases h

theorem aop_slice0 {t : TypeId} {x : Operand} {lo hi : Option Operand} (ho : o.op = .slice t x lo hi none) (hx : val w g (vals x) (ρ x)) (hlo : ∀ y, lo = some y → val w g (vals y) (ρ y)) (hhi : ∀ y, hi = some y → val w g (vals y) (ρ y))
    (h : aop P vals bx o = some d) : Yields P w g ρ o d := by
  simp only [aop, ho] at h
  unfold aslice at h
  have bounds : ∀ (sl : Bool) (len cap hh a : Nat), len ≤ cap → (match Option.map vals hi with | some d => idx d 0 len | none => some len) = some hh → (match Option.map vals lo with | some d => idx d 0 hh | none => some 0) = some a →
      (Instr.sliceBounds sl len cap (lo.map ρ) (hi.map ρ) none).run P w = .ok (a, hh, cap) w ∧ a ≤ hh ∧ hh ≤ len := by
    intro sl len cap hh a hlc e1 e2
    have s1 : hh ≤ len := by
      cases hi with
      | none => simp at e1; omega
      | some y =>
        simp only [Option.map_some] at e1
        exact (idx_run (P := P) (code := .sliceB) e1 (hhi y rfl) hlc).2
    have s2 : a ≤ hh := by
      cases lo with
      | none => simp at e2; omega
      | some y =>
        simp only [Option.map_some] at e2
        exact (idx_run (P := P) (code := .sliceB) e2 (hlo y rfl) (Nat.le_refl _)).2
    refine ⟨?_, s2, s1⟩
    unfold Instr.sliceBounds
    simp only [pure_bind]
    cases hi with
    | none =>
      simp at e1
      subst e1
      cases lo with
      | none => simp at e2; subst e2; rfl
      | some y =>
        simp only [Option.map_some] at e2
        simp only [Option.map_some, Option.map_none]
        rw [Sem.run_bind, (idx_run (P := P) (code := _) e2 (hlo y rfl) (Nat.le_refl _)).1, Result.andThen_ok]
        rfl
    | some z =>
      simp only [Option.map_some] at e1
      simp only [Option.map_some]
      rw [Sem.run_bind, (idx_run (P := P) (code := _) e1 (hhi z rfl) hlc).1, Result.andThen_ok]
      cases lo with
      | none => simp at e2; subst e2; rfl
      | some y =>
        simp only [Option.map_some] at e2
        simp only [Option.map_some]
        rw [Sem.run_bind, (idx_run (P := P) (code := _) e2 (hlo y rfl) (Nat.le_refl _)).1, Result.andThen_ok]
        rfl
  split at h
  · rename_i q n l e hl hu
    rw [hl] at hx
    obtain ⟨A, cap, cs, hv, hlc, hm, _, _, hA, hr, hn, hcell⟩ := val_slice hx
    split at h
    · cases h
    rename_i hh hhe
    split at h
    · cases h
    rename_i a hae
    split at h
    · rename_i hc
      cases h
      obtain ⟨hb, ha1, hb1⟩ := bounds true l.length cap hh a hlc hhe hae
      obtain ⟨ie, hie⟩ := Option.isSome_iff_exists.1 hc.2
      have hsz : ie.size = P.cellsOf e := by unfold Program.cellsOf; rw [hie]; rfl
      refine ⟨.slice (if cap = a then A else A.map (·.add (a * ie.size))) (hh - a) (cap - a), ?_, ?_⟩
      · simp only [execOp, ho, hv]
        refine andThen_v ?_
        unfold Instr.sliceAt
        rw [Sem.run_bind, run_underlying hu, Result.andThen_ok]
        dsimp only
        unfold Instr.slice
        rw [Sem.run_bind, run_underlying hu, Result.andThen_ok]
        dsimp only
        simp only [Option.map_none]
        rw [Sem.run_bind, hb, Result.andThen_ok, Sem.run_bind, run_size hie, Result.andThen_ok]
        rfl
      · have hlen : ((l.drop a).take (hh - a)).length = hh - a := by simp; omega
        have key := R.slice (w := w) (g := g) .imm n ((l.drop a).take (hh - a)) (if cap = a then A else A.map (·.add (a * ie.size))) (cap - a) (fun j => cs (a + j)) (by rw [hlen]; omega) (by omega) (fun s e q => by cases q) trivial
          trivial
          (fun j hj => by
            rw [hlen] at hj
            simp only [List.getElem_take, List.getElem_drop]
            exact hr (a + j) (by omega))
          (fun j hj => hn (a + j) (by rw [hlen] at hj; omega))
          (fun j hj => by
            rw [hlen] at hj
            obtain ⟨b, off, rfl, hcl⟩ := hcell (a + j) (by omega)
            have hne : n = P.cellsOf e := hc.1.resolve_right (fun e => by rw [e] at hb1; simp at hb1; omega)
            refine ⟨b, off + a * n, ?_, fun m u hu => ?_⟩
            · rw [if_neg (by omega), Option.map_some, addr_plus, hsz, hne]
            · have := hcl m u hu
              rw [Nat.add_mul] at this
              rw [show off + a * n + j * n + m = off + (a * n + j * n) + m from by omega]
              exact this)
        rw [hlen] at key
        exact val_of_R key rfl
    · cases h
  · rename_i s hs hu
    rw [hs] at hx
    obtain ⟨hv, hsz⟩ := val_str hx
    split at h
    · cases h
    rename_i hh hhe
    split at h
    · cases h
    rename_i a hae
    cases h
    obtain ⟨hb, ha1, hb1⟩ := bounds false s.size s.size hh a (Nat.le_refl _) hhe hae
    refine ⟨.string (s.extract a hh), ?_, val_of_R (.str _ (by rw [ByteArray.size_extract]; omega)) rfl⟩
    simp only [execOp, ho, hv]
    refine andThen_v ?_
    unfold Instr.sliceAt
    rw [Sem.run_bind, run_underlying hu, Result.andThen_ok]
    dsimp only
    unfold Instr.slice
    rw [Sem.run_bind, run_underlying hu, Result.andThen_ok]
    dsimp only
    simp only [Option.map_none, Option.isSome_none, Bool.false_eq_true, if_false]
    rw [Sem.run_bind, hb, Result.andThen_ok]
    rfl
  · cases h
theorem aop_slice3 {t : TypeId} {x y z : Operand} {lo : Option Operand} (ho : o.op = .slice t x lo (some y) (some z)) (hx : val w g (vals x) (ρ x)) (hlo : ∀ y, lo = some y → val w g (vals y) (ρ y)) (hhi : val w g (vals y) (ρ y)) (hmx : val w g (vals z) (ρ z))
    (h : aop P vals bx o = some d) : Yields P w g ρ o d := by
  simp only [aop, ho] at h
  unfold aslice3 at h
  split at h
  · rename_i q n l e hl hu
    rw [hl] at hx
    obtain ⟨A, cap, cs, hv, hlc, hm, _, _, hA, hr, hn, hcell⟩ := val_slice hx
    split at h
    · cases h
    rename_i mm hme
    split at h
    · cases h
    rename_i hh hhe
    split at h
    · cases h
    rename_i a hae
    split at h
    · rename_i hc
      cases h
      obtain ⟨r1, r2⟩ := idx_run (P := P) (w := w) (g := g) (code := .slice3Acap) hme hmx hlc
      obtain ⟨r3, r4⟩ := idx_run (P := P) (w := w) (g := g) (code := .slice3B) hhe hhi (Nat.le_refl _)
      have s2 : a ≤ hh := by
        cases lo with
        | none => simp at hae; omega
        | some y =>
          simp only [Option.map_some] at hae
          exact (idx_run (P := P) (code := .sliceB) hae (hlo y rfl) (Nat.le_refl _)).2
      have hb : (Instr.sliceBounds true l.length cap (lo.map ρ) (some (ρ y)) (some (ρ z))).run P w = .ok (a, hh, mm) w := by
        unfold Instr.sliceBounds
        rw [Sem.run_bind]
        rw [show (Instr.sliceBound (ρ z) cap (if true = true then .slice3Acap else .slice3Alen)).run P w = .ok mm w from r1, Result.andThen_ok]
        rw [Sem.run_bind, r3, Result.andThen_ok]
        cases lo with
        | none => simp at hae; subst hae; rfl
        | some y =>
          simp only [Option.map_some] at hae
          simp only [Option.map_some]
          rw [Sem.run_bind, (idx_run (P := P) (code := _) hae (hlo y rfl) (Nat.le_refl _)).1, Result.andThen_ok]
          rfl
      obtain ⟨ie, hie⟩ := Option.isSome_iff_exists.1 hc.2.1
      have hsz : ie.size = P.cellsOf e := by unfold Program.cellsOf; rw [hie]; rfl
      have hhm : hh = mm := hc.2.2
      refine ⟨.slice (if mm = a then A else A.map (·.add (a * ie.size))) (hh - a) (mm - a), ?_, ?_⟩
      · simp only [execOp, ho, hv]
        refine andThen_v ?_
        unfold Instr.sliceAt
        rw [Sem.run_bind, run_underlying hu, Result.andThen_ok]
        dsimp only
        unfold Instr.slice
        rw [Sem.run_bind, run_underlying hu, Result.andThen_ok]
        dsimp only
        simp only [Option.map_some]
        rw [Sem.run_bind, hb, Result.andThen_ok, Sem.run_bind, run_size hie, Result.andThen_ok]
        rfl
      · have hlen : ((l.drop a).take (hh - a)).length = hh - a := by simp; omega
        have key := R.slice (w := w) (g := g) .clip n ((l.drop a).take (hh - a)) (if mm = a then A else A.map (·.add (a * ie.size))) (mm - a) (fun j => cs (a + j)) (by rw [hlen]; omega) (by omega) (fun s e q => by cases q) (by show mm - a = _; rw [hlen, hhm])
          trivial
          (fun j hj => by
            rw [hlen] at hj
            simp only [List.getElem_take, List.getElem_drop]
            exact hr (a + j) (by omega))
          (fun j hj => hn (a + j) (by rw [hlen] at hj; omega))
          (fun j hj => by
            rw [hlen] at hj
            obtain ⟨b, off, rfl, hcl⟩ := hcell (a + j) (by omega)
            have hne : n = P.cellsOf e := hc.1.resolve_right (fun e => by rw [e] at r2; simp at r2; omega)
            refine ⟨b, off + a * n, ?_, fun m u hu => ?_⟩
            · rw [if_neg (by omega), Option.map_some, addr_plus, hsz, hne]
            · have := hcl m u hu
              rw [Nat.add_mul] at this
              rw [show off + a * n + j * n + m = off + (a * n + j * n) + m from by omega]
              exact this)
        rw [hlen] at key
        exact val_of_R key rfl
    · cases h
  · cases h
theorem aop_slice {t : TypeId} {x : Operand} {lo hi mx : Option Operand} (ho : o.op = .slice t x lo hi mx) (hx : val w g (vals x) (ρ x)) (hlo : ∀ y, lo = some y → val w g (vals y) (ρ y)) (hhi : ∀ y, hi = some y → val w g (vals y) (ρ y)) (hmx : ∀ y, mx = some y → val w g (vals y) (ρ y))
    (h : aop P vals bx o = some d) : Yields P w g ρ o d := by
  cases mx with
  | none => exact aop_slice0 ho hx hlo hhi h
  | some z =>
    cases hi with
    | none => simp [aop, ho] at h
    | some y => exact aop_slice3 ho hx hlo (hhi y rfl) (hmx z rfl) h
end

end Go.Proofs.Ytjikokmhknnnoaa
