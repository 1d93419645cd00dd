/- The functions that Check hands to visit. -/
import Derived.Test.YtjikokmhknnnoaaVm
namespace Go.Proofs.Ytjikokmhknnnoaa
open Go.RowKit Go.Shelf

section
variable {ok0 : Nat → Nat → Prop} {B0 F Rb Ib : Nat} {i : Int} {p : Pg} {A1 A2 A3 : Option Addr} {c1 c2 c3 : Nat}

set_option maxRecDepth 100000 in
set_option maxHeartbeats 1000000 in
theorem rep_48 (hpr : inr .i64 i) : RepF ok0 B0 F i (Ibox F [(Rb, .cells #[.func (.func 44) #[] #[.pointer (some ⟨F, 0, none⟩)]] 76 (0, 0)), (Ib, .cells #[.int .i64 i] 3 (0, 0))]) 48 [.pointer (some ⟨Rb, 0, none⟩), .pointer (some ⟨Ib, 0, none⟩)] := by
  refine ⟨fun w v L path name err vp hR hI herr hname hp hpl hL => ?_, fun w v w' v' h hm => h.mv hm, ?_⟩
  · have b1 := (hI (Rb, _) (List.mem_cons_self)).1
    have b2 := (hI (Ib, _) (List.mem_cons_of_mem _ List.mem_cons_self)).1
    have f1 := cell_of_row w _ 0 _ _ _ b1
    have f2 := cell_of_row w _ 0 _ _ _ b2
    have HR := Lib.hid hR
    have HP := Lib.hid hp
    clear hI b1 b2 hp hR
    show Calls _ _ #[vp, .string name, .int .i64 err, .pointer (some ⟨Rb, 0, none⟩), .pointer (some ⟨Ib, 0, none⟩)] _ _
    go_enter Try.func48, Try.ntmps48
    go_wp2_with fail
    refine (report_mem HR.out hpr herr hname HP.out hpl hL).mono ?_
    rintro e w1 ⟨v1, ⟨u, rfl⟩, ⟨hc, ho⟩, hm⟩
    go_wp2_with fail
    refine bodyPost_end (results_none rfl _ _ _) rfl ?_
    exact ⟨v1, ⟨_, rfl⟩, ⟨hc, ho, HR.out.old, HR.out.le⟩, hm⟩
  · intro args w
    exact enters_of Try.func48 (by kernel_rfl) rfl args w

set_option maxRecDepth 100000 in
set_option maxHeartbeats 1000000 in
theorem rep_49 (hpr : inr .i64 (p.procs.length : Int)) : RepF ok0 B0 F (p.procs.length : Int) (Ibox F [(Rb, .cells #[.func (.func 44) #[] #[.pointer (some ⟨F, 0, none⟩)]] 76 (0, 0)), (Ib, .cells #[.slice A1 p.vars.length c1, .slice A2 p.procs.length c2, .int .u8 p.main.kind, .int .i64 p.main.num, .string p.main.name, .slice A3 p.main.kids.length c3] 30 (0, 0))]) 49 [.pointer (some ⟨Rb, 0, none⟩), .pointer (some ⟨Ib, 0, none⟩)] := by
  refine ⟨fun w v L path name err vp hR hI herr hname hp hpl hL => ?_, fun w v w' v' h hm => h.mv hm, ?_⟩
  · have b1 := (hI (Rb, _) (List.mem_cons_self)).1
    have b2 := (hI (Ib, _) (List.mem_cons_of_mem _ List.mem_cons_self)).1
    have f1 := cell_of_row w _ 0 _ _ _ b1
    have f2 := cell_of_row w _ 1 _ _ _ b2
    have HR := Lib.hid hR
    have HP := Lib.hid hp
    clear hI b1 b2 hp hR
    show Calls _ _ #[vp, .string name, .int .i64 err, .pointer (some ⟨Rb, 0, none⟩), .pointer (some ⟨Ib, 0, none⟩)] _ _
    go_enter Try.func49, Try.ntmps49
    go_wp2_with fail
    refine (report_mem HR.out hpr herr hname HP.out hpl hL).mono ?_
    rintro e w1 ⟨v1, ⟨u, rfl⟩, ⟨hc, ho⟩, hm⟩
    go_wp2_with fail
    refine bodyPost_end (results_none rfl _ _ _) rfl ?_
    exact ⟨v1, ⟨_, rfl⟩, ⟨hc, ho, HR.out.old, HR.out.le⟩, hm⟩
  · intro args w
    exact enters_of Try.func49 (by kernel_rfl) rfl args w
end

end Go.Proofs.Ytjikokmhknnnoaa

/- scope.Check in memory: the row that it hands back is apart from its elements. -/
namespace Go.Proofs.Ytjikokmhknnnoaa
open Go.RowKit Go.Shelf

section
variable {F : Fence} {n : Nat} {P : Program} {ops : Array Oper} {Q : Exit → Act → World → Prop} {hd : List Nat}
/-- number j is run -/
def StepK (F : Fence) (n : Nat) (P : Program) (ops : Array Oper) (Q : Exit → Act → World → Prop) (hd : List Nat) (j fuel : Nat) (listed : Array Bool) (a : Act) (w : World) : Prop :=
  wpOpIn F n P ops (onlyN Q) j (fun a' w' => (hd.contains j = false → Below w.heap.size w w') ∧ wpAnyK F n P ops Q hd fuel (listed.setIfInBounds j true) a' w') a w
theorem stepV {j : Nat} {oj : Oper} {v : Value} {fuel : Nat} {listed : Array Bool} {a : Act} {w w1 : World} (hfn : ∀ f, F.fn f) (hp : serB ops = true) (hj0 : ops.toList[j]? = some oj) (hw : Region.wanted oj (yielded ops a.tmps) = true)
    (hrun : (execOp a.eval oj).run P w = .ok (.value v) w1) (hb : hd.contains j = false → Below w.heap.size w w1)
    (h : (hd.contains j = false → Below w.heap.size w w1) → wpAnyK F n P ops Q hd fuel (listed.setIfInBounds j true) (a.put oj.dst v) w1) : StepK F n P ops Q hd j fuel listed a w := by
  have hj : ops[j]? = some oj := by simpa using hj0
  unfold StepK wpOpIn
  simp only [hj, hw, if_true]
  refine ⟨fun f _ => hfn f, ?_⟩
  rw [Oper.semAt_plain F _ _ (fun c => (ser_spec hp).2 j oj c hj), hrun]
  exact ⟨hb, h hb⟩
theorem stepC {j : Nat} {oj : Oper} {f : FuncId} {args : Array Value} {fuel : Nat} {listed : Array Bool} {a : Act} {w : World} (hfn : ∀ f, F.fn f) (hdep : F.depth.isSome = false) (hp : serB ops = true) (hj0 : ops.toList[j]? = some oj)
    (hw : Region.wanted oj (yielded ops a.tmps) = true) (hrun : (execOp a.eval oj).run P w = .ok (.enter f args) w)
    (h : CallsIn F (n - 1) P f args w fun e w1 => ∃ v, e = .returned v ∧ (hd.contains j = false → Below w.heap.size w w1) ∧ wpAnyK F n P ops Q hd fuel (listed.setIfInBounds j true) (a.put oj.dst v) w1) : StepK F n P ops Q hd j fuel listed a w := by
  have hj : ops[j]? = some oj := by simpa using hj0
  unfold StepK wpOpIn
  simp only [hj, hw, if_true]
  refine ⟨fun f _ => hfn f, ?_⟩
  rw [Oper.semAt_plain F _ _ (fun c => (ser_spec hp).2 j oj c hj), hrun]
  refine ⟨fun e => absurd (hdep.symm.trans e) (by simp), h.mono ?_⟩
  rintro e w1 ⟨v, rfl, hb, h1⟩
  exact ⟨hb, h1⟩
/-- two may come up -/
theorem runTwo {j k : Nat} {fuel : Nat} {listed : Array Bool} {a : Act} {w : World} (hr : Region.ready .any ops listed = [j, k]) (h1 : StepK F n P ops Q hd j fuel listed a w) (h2 : StepK F n P ops Q hd k fuel listed a w) : wpAnyK F n P ops Q hd (fuel + 1) listed a w := by
  refine ⟨fun h0 => (by rw [hr] at h0; cases h0), fun i hi => ?_⟩
  rw [hr] at hi
  simp only [List.mem_cons, List.not_mem_nil, or_false] at hi
  rcases hi with rfl | rfl
  · exact h1
  · exact h2
end

/-- an element of a row of declarations -/
theorem vd_at {w : World} {g : Gh} {l : List Vd} {A : Option Addr} {cap : Nat} (h : val w g (sl 3 (l.map dV)) (.slice A l.length cap)) (i : Nat) (hi : i < l.length) :
    ∃ (b off : Nat), A = some ⟨b, off, none⟩ ∧ w.cell? ⟨b, off + i * 3, none⟩ = some (.string l[i].name) ∧ w.cell? ⟨b, off + i * 3 + 1, none⟩ = some (.int .u8 l[i].kind) ∧ w.cell? ⟨b, off + i * 3 + 2, none⟩ = some (.int .i64 l[i].len) ∧ l[i].name.size ≤ 9223372036854775807 := by
  obtain ⟨A', cap', cs, e, _, _, _, _, _, hr, hn, hc⟩ := val_slice (show val w g (.slice .imm (if (l.map dV).isEmpty then 0 else 3) (l.map dV)) _ from h)
  simp only [List.length_map, Value.slice.injEq] at e hr hn hc
  obtain ⟨rfl, _, rfl⟩ := e
  have hne : (if (l.map dV).isEmpty = true then 0 else 3) = 3 := sl_n (j := i) (by simpa using hi)
  obtain ⟨b, off, hA, hcl⟩ := hc i hi
  have hRi := hr i hi
  rw [List.getElem_map] at hRi
  rw [hne] at hcl
  have hRi' : R w g (.agg [.str l[i].name, .int .u8 l[i].kind, .int .i64 l[i].len]) (cs i) := hRi
  have hl := R_agg_len hRi'
  match hq : cs i, hl with
  | [x0, x1, x2], _ =>
    rw [hq] at hRi' hcl
    obtain ⟨_, q0⟩ := R_agg_at hRi' 0 (by simp)
    obtain ⟨_, q1⟩ := R_agg_at hRi' 1 (by simp)
    obtain ⟨_, q2⟩ := R_agg_at hRi' 2 (by simp)
    obtain ⟨e0, hs⟩ := R_str q0
    obtain ⟨e1, _⟩ := R_int q1
    obtain ⟨e2, _⟩ := R_int q2
    simp only [List.getElem_cons_zero, List.getElem_cons_succ, List.cons.injEq, and_true] at e0 e1 e2
    subst e0 e1 e2
    exact ⟨b, off, hA, by simpa using (hcl 0 _ rfl).2, (hcl 1 _ rfl).2, (hcl 2 _ rfl).2, hs⟩
theorem vd_cap {w : World} {g : Gh} {l : List Vd} {A : Option Addr} {cap : Nat} (h : val w g (sl 3 (l.map dV)) (.slice A l.length cap)) : l.length ≤ cap := by
  obtain ⟨A', cap', cs, e, h1, _⟩ := val_slice (show val w g (.slice .imm (if (l.map dV).isEmpty then 0 else 3) (l.map dV)) _ from h)
  simp only [List.length_map, Value.slice.injEq] at e h1
  obtain ⟨rfl, _, rfl⟩ := e
  exact h1
/-- the first elements of a row -/
theorem vd_take {w : World} {g : Gh} {l : List Vd} {A : Option Addr} {cap : Nat} (h : val w g (sl 3 (l.map dV)) (.slice A l.length cap)) (i : Nat) (hi : i ≤ l.length) : val w g (.slice .imm (if (l.map dV).isEmpty = true then 0 else 3) ((l.map dV).take i)) (.slice A i cap) := by
  obtain ⟨A', cap', cs, e, h1, h2, _, _, _, hr, hn, hc⟩ := val_slice (show val w g (.slice .imm (if (l.map dV).isEmpty then 0 else 3) (l.map dV)) _ from h)
  simp only [List.length_map, Value.slice.injEq] at e h1
  obtain ⟨rfl, _, rfl⟩ := e
  have hlen : ((l.map dV).take i).length = i := by simp; omega
  have key := R.slice (w := w) (g := g) .imm (if (l.map dV).isEmpty = true then 0 else 3) ((l.map dV).take i) A cap cs (by omega) h2 (fun s e q => by cases q) trivial trivial (fun j hj => by rw [List.getElem_take]; exact hr j (by simp at hj ⊢; omega)) (fun j hj => hn j (by simp at hj ⊢; omega)) (fun j hj => hc j (by simp at hj ⊢; omega))
  rw [hlen] at key
  exact val_of_R key rfl
/-- an element of a row of procedures -/
theorem pr_at {w : World} {g : Gh} {l : List Pr} {A : Option Addr} {cap : Nat} (h : val w g (sl 6 (l.map dP)) (.slice A l.length cap)) (i : Nat) (hi : i < l.length) :
    ∃ (b off : Nat) (A6 A7 : Option Addr) (c6 c7 : Nat), A = some ⟨b, off, none⟩ ∧ w.cell? ⟨b, off + i * 6, none⟩ = some (.string l[i].name) ∧ w.cell? ⟨b, off + i * 6 + 1, none⟩ = some (.slice A6 l[i].params.length c6) ∧ w.cell? ⟨b, off + i * 6 + 2, none⟩ = some (.int .u8 l[i].body.kind) ∧
      w.cell? ⟨b, off + i * 6 + 3, none⟩ = some (.int .i64 l[i].body.num) ∧ w.cell? ⟨b, off + i * 6 + 4, none⟩ = some (.string l[i].body.name) ∧ w.cell? ⟨b, off + i * 6 + 5, none⟩ = some (.slice A7 l[i].body.kids.length c7) ∧
      val w g (sl 3 (l[i].params.map dV)) (.slice A6 l[i].params.length c6) ∧ val w g (dN l[i].body) (.agg #[.int .u8 l[i].body.kind, .int .i64 l[i].body.num, .string l[i].body.name, .slice A7 l[i].body.kids.length c7]) ∧ l[i].name.size ≤ 9223372036854775807 := by
  obtain ⟨A', cap', cs, e, _, _, _, _, _, hr, hn, hc⟩ := val_slice (show val w g (.slice .imm (if (l.map dP).isEmpty then 0 else 6) (l.map dP)) _ from h)
  simp only [List.length_map, Value.slice.injEq] at e hr hn hc
  obtain ⟨rfl, _, rfl⟩ := e
  have hne : (if (l.map dP).isEmpty = true then 0 else 6) = 6 := sl_n (j := i) (by simpa using hi)
  obtain ⟨b, off, hA, hcl⟩ := hc i hi
  have hRi := hr i hi
  rw [List.getElem_map] at hRi
  rw [hne] at hcl
  have hRi' : R w g (.agg [.str l[i].name, sl 3 (l[i].params.map dV), .int .u8 l[i].body.kind, .int .i64 l[i].body.num, .str l[i].body.name, sl 4 (l[i].body.kids.map dN)]) (cs i) := hRi
  have hl := R_agg_len hRi'
  match hq : cs i, hl with
  | [x0, x1, x2, x3, x4, x5], _ =>
    rw [hq] at hRi' hcl
    obtain ⟨_, q0⟩ := R_agg_at hRi' 0 (by simp)
    obtain ⟨_, q1⟩ := R_agg_at hRi' 1 (by simp)
    obtain ⟨_, q2⟩ := R_agg_at hRi' 2 (by simp)
    obtain ⟨_, q3⟩ := R_agg_at hRi' 3 (by simp)
    obtain ⟨_, q4⟩ := R_agg_at hRi' 4 (by simp)
    obtain ⟨_, q5⟩ := R_agg_at hRi' 5 (by simp)
    have hps : val w g (sl 3 (l[i].params.map dV)) x1 := val_of_R q1 rfl
    obtain ⟨e0, hs⟩ := R_str q0
    obtain ⟨A6, c6, _, e1, _⟩ := val_slice (val_of_R (d := .slice .imm (if (l[i].params.map dV).isEmpty then 0 else 3) (l[i].params.map dV)) q1 rfl)
    obtain ⟨e2, _⟩ := R_int q2
    obtain ⟨e3, _⟩ := R_int q3
    obtain ⟨e4, _⟩ := R_str q4
    obtain ⟨A7, c7, _, e5, _⟩ := val_slice (val_of_R (d := .slice .imm (if (l[i].body.kids.map dN).isEmpty then 0 else 4) (l[i].body.kids.map dN)) q5 rfl)
    simp only [List.getElem_cons_zero, List.getElem_cons_succ, List.cons.injEq, and_true, List.length_map] at e0 e1 e2 e3 e4 e5
    subst e0 e1 e2 e3 e4 e5
    have hb : R w g (.agg [.int .u8 l[i].body.kind, .int .i64 l[i].body.num, .str l[i].body.name, sl 4 (l[i].body.kids.map dN)]) [.int .u8 l[i].body.kind, .int .i64 l[i].body.num, .string l[i].body.name, .slice A7 l[i].body.kids.length c7] := by
      refine R_agg_of rfl (fun j h1 h2 => ?_)
      match j, h1 with
      | 0, _ => exact q2
      | 1, _ => exact q3
      | 2, _ => exact q4
      | 3, _ => exact q5
      | j + 4, h1 => simp at h1; omega
    refine ⟨b, off, A6, A7, c6, c7, hA, by simpa using (hcl 0 _ rfl).2, (hcl 1 _ rfl).2, (hcl 2 _ rfl).2, (hcl 3 _ rfl).2, (hcl 4 _ rfl).2, (hcl 5 _ rfl).2, hps, ?_, hs⟩
    rw [dN_eq]
    exact val_of_agg hb

end Go.Proofs.Ytjikokmhknnnoaa
