/- A call whose boxes are given up at its end, by what the body does. -/
import Derived.Test.YthgdibdapjaljaaAmZ
namespace Go.Proofs.Ythgdibdapjaljaa
open Go.RowKit

/-- boxes given up: what is left does not lead to them -/
theorem RW.take {P : Program} {base : Nat} {w0 : World} {ok0 g : Gh} {bx : List (List D)} {K lv : Nat → Prop} {w : World} (q1 : RW P base w0 ok0 g (fun i => bx[i]?) K lv w) (m : Nat) (hall : (bx.take m).all (D.unders m) = true) :
  RW P base w0 ok0 { g with β := fun i => if i < m then g.β i else none } (fun i => (bx.take m)[i]?) K lv w := by
 refine ⟨q1.below, q1.hbs, fun b o q => q1.okb b o q, ?_, ?_, ?_, ?_, fun s s' x x' b r1 r2 r3 r4 r5 r6 => q1.rinj s s' x x' b r1 r2 r3 r4 r5 r6, fun s x q => q1.fresh s x q, fun b q => ⟨(q1.prot b q).1, fun i q' => ?_, (q1.prot b q).2.2⟩, fun v L q => q1.iter v L q, fun b q => ⟨(q1.kept b q).1, fun i q' => ?_, (q1.kept b q).2.2⟩, q1.prb⟩
 rotate_right 2
 ·dsimp only at q'
  split at q'
  ·exact (q1.prot b q).2.1 i q'
  ·cases q'
 ·dsimp only at q'
  split at q'
  ·exact (q1.kept b q).2.1 i q'
  ·cases q'
 ·intro i cs b q r1
  dsimp only at q r1
  rw [List.getElem?_take] at q
  split at q
  ·rename_i hlt
   rw [if_pos hlt] at r1
   have r2 := RW.box q1 i cs b q r1
   have hm : cs ∈ bx.take m := by
    refine List.mem_of_getElem? (i := i) ?_
    rw [List.getElem?_take, if_pos hlt]; exact q
   have hun := List.all_eq_true.1 hall cs hm
   show BoxIn w _ b (g.mp i) cs
   cases hmp : g.mp i with
   | false =>
    rw [hmp] at r2
    obtain ⟨vs', sp, t, r2, r3⟩ := r2
    exact ⟨vs', sp, t, r2, r3.fewer (by simpa only [D.under] using hun)⟩
   | true =>
    rw [hmp] at r2
    obtain ⟨es, cl, r2, r3, r4, r5, r6⟩ := r2
    exact ⟨es, cl, r2, r3, r4, fun j hj => (r5 j hj).fewer (by rw [D.unders_all, List.all_eq_true] at hun; exact hun _ (List.getElem_mem hj)), r6⟩
  ·cases q
 ·intro i b q
  dsimp only at q
  split at q
  ·rename_i hlt
   obtain ⟨r1, r2⟩ := RW.dom q1 i b q
   refine ⟨?_, r2⟩
   rw [List.getElem?_take, if_pos hlt]; exact r1
  ·cases q
 ·intro i j b r1 r2
  dsimp only at r1 r2
  split at r1
  ·split at r2
   ·exact RW.inj q1 i j b r1 r2
   ·cases r2
  ·cases r1
 ·intro s hs
  obtain ⟨u, e, len, xs, r1, r2, r3⟩ := RW.row q1 s hs
  refine ⟨u, e, len, xs, r1, r2, fun b hb => ⟨(r3 b hb).1, fun i q => ?_⟩⟩
  dsimp only at q
  split at q
  ·exact (r3 b hb).2 i q
  ·cases q

/-- a call, by what the body does; its own boxes are given up -/
theorem S_callT {P : Program} {k : Nat} {args : List D} {f : Func} {body : Code} {d : D} {bx : List (List D)} {nx nx' : Nat} {lv lv' : List Nat} (hf : P.funcs[k]? = some f) (hb : f.body = some body) (hun : bx.all (D.unders bx.length) = true) (hd : d.under bx.length = true)
  (h : S P bx.length body (enterSt f args bx nx lv) (fun e τ => (e = .normal ∨ e = .ret) ∧ resD P f τ = some d ∧ (∃ r, τ.bx = bx ++ r) ∧ τ.nx = nx' ∧ τ.lv = lv')) {base : Nat} {w0 : World} {ok0 g : Gh} {vs : List Value} {w : World}
  (hr : RW P base w0 ok0 g (fun i => bx[i]?) (fun s => s < nx) (fun s => s ∈ lv) w) (hv : vals w g args vs) :
  Calls P k vs.toArray w fun e w' => ∃ v g', e = .returned v ∧ RW P base w0 ok0 g' (fun i => bx[i]?) (fun s => s < nx') (fun s => s ∈ lv') w' ∧ Ext g w g' w' ∧ val w' g' d v := by
 refine callsIn_wide.1 (callsIn_of_wp_marks (n := 0) hf hb trivial ?_ rfl)
 refine h base w0 ok0 g w [] _ g _ w (fun i c q => ?_) (Nat.le_refl _) (enter_rel hr hv) (Ext.refl _ _) (.of_eq rfl) (fun e σ' a' w' g' ⟨hex, hdd, ⟨r, e1⟩, e2, e3⟩ q1 q2 q3 => ?_)
 ·obtain ⟨cs, hcs⟩ := Option.isSome_iff_exists.1 (RW.dom hr i c q).1
  exact (List.getElem?_eq_some_iff.1 hcs).1
 obtain ⟨Ds, m1, m2, m3⟩ := q3
 have fin : LeavesInM .wide 0 P f a'.tmps (fun e w' => ∃ v g', e = .returned v ∧ RW P base w0 ok0 g' (fun i => bx[i]?) (fun s => s < nx') (fun s => s ∈ lv') w' ∧ Ext g w g' w' ∧ val w' g' d v) a'.defers .returning w' := by
  rw [show a'.defers = Ds.map markOf from by rw [m1]; simp]
  refine leaves_marks Ds w' m2 (fun D hD => (m3 D hD).2.2.2) (fun w2 hs => ?_)
  obtain ⟨s1, s2, s3, s4⟩ := hs
  have hcell : ∀ p, w2.cell? p = w'.cell? p := by
   intro p
   by_cases hp : p.block ∈ Ds
   ·unfold World.cell?
    rw [s4 _ hp, (m3 _ hp).2.2.2]
   ·exact World.cell?_of_block (s3 _ hp)
  obtain ⟨v, r1, r2⟩ := resD_sound q1 hcell hdd
  have hbs := RW.hbs hr
  have hg2 : RW P base w0 ok0 { g' with kp := g.kp } (fun i => σ'.bx[i]?) (fun s => s < σ'.nx) (fun s => s ∈ σ'.lv) w' := by
   refine RW.turn q1.rs (ok' := g'.ok) (fun _ _ q => q) (fun _ _ q => .inl q) (fun b q => RW.kept q1.rs b (q2.kp b q).1)
  obtain ⟨t1, t2⟩ := hg2.still (w' := w2) ⟨s1.1, s1.2.1, s1.2.2, by omega, fun k hk => s3 k (fun q => by have := (m3 k q).1; omega)⟩ (by omega) (fun i b q => s3 b (fun q' => (RW.kept q1.rs b (m3 b q').2.1).2.1 i q)) (fun s x b hs' hx hb => s3 b (fun q' => (RW.kept q1.rs b (m3 b q').2.1).2.2 s x hs' hx hb))
   (fun b o _ => hcell _) (fun b q => s3 b (fun q' => (m3 b q').2.2.1 q)) (fun b q => s3 b (fun q' => by have h1 := (m3 b q').1; have h2 := (RW.kept hr b q).1; omega))
  have hsub : Sub g' { g' with kp := g.kp } := ⟨fun _ _ q => q, fun _ _ q => q, fun _ _ q => q, fun _ q => q, fun _ _ q => q, fun _ _ _ => rfl⟩
  have hext : Ext g w { g' with kp := g.kp } w2 := (⟨q2.ok, q2.β, q2.ow, q2.cell, q2.pr, q2.it, q2.mp, fun b q => ⟨q, (q2.kp b q).2⟩, q2.size⟩ : Ext g w { g' with kp := g.kp } w').trans t2
  have hval := (r2.sub hsub).ext t2
  rw [e1, e2, e3] at t1
  have t3 := RW.take t1 bx.length (by rw [List.take_left]; exact hun)
  rw [List.take_left] at t3
  refine ⟨v, r1, v, { g' with kp := g.kp, β := fun i => if i < bx.length then g'.β i else none }, rfl, t3, ⟨hext.ok, fun i b q => ?_, hext.ow, hext.cell, hext.pr, hext.it, hext.mp, hext.kp, hext.size⟩, hval.fewer hd⟩
  show (if i < bx.length then g'.β i else none) = some b
  obtain ⟨cs, hcs⟩ := Option.isSome_iff_exists.1 (RW.dom hr i b q).1
  rw [if_pos (List.getElem?_eq_some_iff.1 hcs).1]
  exact hext.β i b q
 rcases hex with rfl | rfl <;> exact fin
end Go.Proofs.Ythgdibdapjaljaa
