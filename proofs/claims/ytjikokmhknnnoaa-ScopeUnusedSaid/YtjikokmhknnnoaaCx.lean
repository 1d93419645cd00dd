/- scope.Check as a call that hands back a box: the row of faults. -/
import Derived.Test.YtjikokmhknnnoaaVk2
import Derived.Test.YtjikokmhknnnoaaAmZ
namespace Go.Proofs.Ytjikokmhknnnoaa
open Go.RowKit Go.Shelf

mutual
/-- data of numbers, strings and rows alone -/
def D.pl : D → Bool
  | .agg l => D.pls l
  | .slice o _ l => decide (o = .imm) && D.pls l
  | .int _ _ => true
  | .str _ => true
  | .bool _ => true
  | _ => false
def D.pls : List D → Bool
  | [] => true
  | d :: r => D.pl d && D.pls r
end
theorem D.pls_at : ∀ {l : List D}, D.pls l = true → ∀ (j : Nat) (h : j < l.length), D.pl l[j] = true
  | [], _, j, h => absurd h (Nat.not_lt_zero _)
  | d :: r, h, 0, _ => by simp only [D.pls, Bool.and_eq_true] at h; exact h.1
  | d :: r, h, j + 1, hj => by simp only [D.pls, Bool.and_eq_true] at h; exact D.pls_at h.2 j (by simpa using hj)
theorem D.pls_of : ∀ {l : List D}, (∀ d ∈ l, D.pl d = true) → D.pls l = true
  | [], _ => rfl
  | d :: r, h => by simp only [D.pls, Bool.and_eq_true]; exact ⟨h d (by simp), D.pls_of fun x hx => h x (by simp [hx])⟩
theorem R.pl {w : World} {g : Gh} {d : D} {cs : List Value} (h : R w g d cs) (hp : d.pl = true) : R w (okGh g.ok) d cs := by
  induction h with
  | bool b => exact .bool b
  | int k n h => exact .int k n h
  | str s h => exact .str s h
  | agg l vs hl _ ih =>
    simp only [D.pl] at hp
    exact .agg l vs hl (fun j h h' => ih j h h' (D.pls_at hp j h))
  | slice o n l A cap cs hl hm ho hnil hA _ hn hc ih =>
    simp only [D.pl, Bool.and_eq_true, decide_eq_true_eq] at hp
    obtain ⟨rfl, hp⟩ := hp
    exact .slice .imm n l A cap cs hl hm (fun s e q => by cases q) trivial trivial (fun j h => ih j h (D.pls_at hp j h)) hn hc
  | _ => simp [D.pl] at hp
theorem dN_plain (t : Tr) : (dN t).pl = true := by
  induction t using Tr.ind with
  | h k n s c ih =>
    rw [dN_eq]
    simp only [D.pl, D.pls, Tr.kids, Bool.and_true, Bool.true_and]
    exact D.pls_of fun d hd => by obtain ⟨t, ht, rfl⟩ := List.mem_map.1 hd; exact ih t ht
theorem dV_plain (v : Vd) : (dV v).pl = true := rfl
theorem sl_plain {n : Nat} {l : List D} (h : ∀ d ∈ l, D.pl d = true) : (sl n l).pl = true := by
  show (decide (Own.imm = Own.imm) && D.pls l) = true
  rw [D.pls_of h]; rfl
theorem kids_plain (t : Tr) : (sl 4 (t.kids.map dN)).pl = true := sl_plain fun d hd => by obtain ⟨t, _, rfl⟩ := List.mem_map.1 hd; exact dN_plain t
theorem dP_plain (q : Pr) : (dP q).pl = true := by
  unfold dP
  simp only [D.pl, D.pls, kids_plain, sl_plain (l := q.params.map dV) (n := 3) (fun d hd => by obtain ⟨t, _, rfl⟩ := List.mem_map.1 hd; exact dV_plain t), Bool.and_true]
theorem dG_plain (p : Pg) : (dG p).pl = true := by
  unfold dG
  simp only [D.pl, D.pls, kids_plain, sl_plain (l := p.vars.map dV) (n := 3) (fun d hd => by obtain ⟨t, _, rfl⟩ := List.mem_map.1 hd; exact dV_plain t), sl_plain (l := p.procs.map dP) (n := 6) (fun d hd => by obtain ⟨t, _, rfl⟩ := List.mem_map.1 hd; exact dP_plain t), Bool.and_true]

/-- faults in memory read as their data -/
theorem R_ft {w : World} {g : Gh} {ok : Nat → Prop} (hg : ∀ b o, ok b → g.ok b o) {x : Ft} {cs : List Value} (h : shFt.R w ok x cs) : R w g (dFt x) cs := by
  obtain ⟨h1, h2, h3, vp, rfl, ⟨A, cap, rfl, hl, hm, _, hc⟩, h5⟩ := h
  have key := R.slice (w := w) (g := g) .imm (if (x.path.map dI).isEmpty then 0 else 1) (x.path.map dI) A cap (fun j => [.int .i64 ((x.path[j]?).getD 0)]) (by simpa using hl) hm (fun _ _ q => by cases q) trivial trivial
    (fun j hj => by
      have hj' : j < x.path.length := by simpa using hj
      simp only [List.getElem_map, dI, List.getElem?_eq_getElem hj', Option.getD_some]
      exact .int _ _ (h5 _ (List.getElem_mem hj')))
    (fun j hj => by rw [sl_n (j := j) hj]; rfl)
    (fun j hj => by
      have hj' : j < x.path.length := by simpa using hj
      obtain ⟨b, off, q1, q2, q3⟩ := hc j hj'
      rw [sl_n (j := j) hj]
      refine ⟨b, off, q1, fun m u hu => ?_⟩
      match m with
      | 0 =>
        simp only [List.getElem?_cons_zero, Option.some.injEq, List.getElem?_eq_getElem hj', Option.getD_some] at hu
        subst hu
        rw [Nat.mul_one, Nat.add_zero]
        exact ⟨hg b _ q2, q3⟩
      | m + 1 => simp at hu)
  rw [List.length_map] at key
  unfold dFt
  refine R_agg_of rfl (fun j q1 q2 => ?_)
  match j, q1 with
  | 0, _ => exact .int _ _ h1
  | 1, _ => exact key
  | 2, _ => exact .int _ _ h2
  | 3, _ => exact .str _ h3
  | j + 4, q1 => simp at q1; omega
theorem R_fts {w : World} {g : Gh} {ok : Nat → Prop} (hg : ∀ b o, ok b → g.ok b o) : ∀ {l : List Ft} {cs : List Value}, CellsS shFt w ok l cs → R w g (.agg (l.flatMap fun f => (dFt f).cells)) cs
  | [], cs, h => by obtain rfl : cs = [] := h; exact .agg _ _ rfl (fun j h => absurd h (Nat.not_lt_zero _))
  | x :: l, cs, ⟨c, r, e, h1, h2⟩ => by
    rw [e, List.flatMap_cons]
    exact R_agg_append (R_ft hg h1).cell (R_fts hg h2)

noncomputable def checkCa (p : Pg) : Nat → List D → St → Option (D × St) := fun k args σ => open Classical in
  if k = 18 ∧ args.map D.strip = [dG p] ∧ args.all (fun d => d.under 0 && d.good) = true then some (.bsl σ.bx.length 0 4 (checkF p).length, { σ with bx := σ.bx ++ [(checkF p).flatMap fun f => (dFt f).cells] }) else none
theorem CaOk.check (p : Pg) (hv : validB p = true) (hne : checkF p ≠ []) : CaOk Try.prog (checkCa p) := by
  intro base w0 ok0 k args σ d σ' q
  unfold checkCa at q
  split at q
  · rename_i hk
    obtain ⟨rfl, hs, hu⟩ := hk
    cases q
    refine ⟨rfl, fun g vs w hr hvs => ?_⟩
    have hf := vals_free hvs hu
    rw [hs] at hf
    obtain ⟨hl, hat⟩ := hf
    match vs, hl with
    | [vp], _ =>
      have h0 := (hat 0 (by simp) (by simp)).to1 (by rfl)
      obtain ⟨cs, hR, hpk⟩ := h0
      have hp : val w (okGh g.ok) (dG p) vp := val.of1 ⟨cs, hR.pl (dG_plain p), hpk⟩
      have hsz : ∀ b o, g.ok b o → b < w.heap.size := fun b o q => RW.ok_lt hr q
      refine (check_mem p hv hsz hp).mono ?_
      rintro e w' ⟨v', B1, rfl, hB1, ⟨us, hown, hcs⟩, hb⟩
      have hbs := RW.hbs hr
      rcases hown.2 with ⟨_, hl0⟩ | ⟨b, cap, cur, rfl, hbb, hcur, hle, hmx, hcz, htake⟩
      · exact absurd (List.eq_nil_of_length_eq_zero hl0) hne
      have hlt : b < w'.heap.size := (Array.getElem?_eq_some_iff.1 hcur).1
      obtain ⟨h1, e1⟩ := RW.grow hr hb (ok' := fun c o => g.ok c o ∨ (w.heap.size ≤ c ∧ c < w'.heap.size ∧ c ≠ b)) (fun _ _ q => .inl q) (fun c o q => q.imp id (fun q => ⟨q.1, q.2.1⟩))
      have hbox : BoxIn w' { g with ok := fun c o => g.ok c o ∨ (w.heap.size ≤ c ∧ c < w'.heap.size ∧ c ≠ b) } b false ((checkF p).flatMap fun f => (dFt f).cells) := by
        refine ⟨us, cur.toList.drop ((checkF p).length * 4), 51, ?_, R_fts (g := { g with ok := fun c o => g.ok c o ∨ (w.heap.size ≤ c ∧ c < w'.heap.size ∧ c ≠ b) }) (fun c o q => (Or.inr ⟨by omega, q.2.1, fun e => q.2.2 (by rw [e]; rfl)⟩ : g.ok c o ∨ (w.heap.size ≤ c ∧ c < w'.heap.size ∧ c ≠ b))) hcs⟩
        rw [← (show cur.toList.take ((checkF p).length * 4) = us from htake), List.take_append_drop, Array.toArray_toList]
        exact hcur
      obtain ⟨r1, r2⟩ := h1.addBox (i := σ.bx.length) (b := b) (m := false) (by omega) hlt (fun o q => by
          rcases q with q | q
          · have := hsz b o q; omega
          · exact q.2.2 rfl) (fun q => by have := (RW.prot hr b q).1; omega) (fun q => by have := (RW.kept hr b q).1; omega) (fun j q => by have := (RW.dom hr j b q).2.2.1; omega)
        (fun s x hs' hx q => by
          obtain ⟨v2, e2, len, ys, q1, q2, _⟩ := RW.row hr s hs'
          have hx' : g.ow s = some x := hx
          rw [hx'] at q1
          cases q1
          have := (q2.lt b q).2; omega) (List.getElem?_eq_none (Nat.le_refl _)) hbox
      refine ⟨_, _, rfl, r1.same_bx (fun i => snoc_at _ _ i), e1.trans r2, val_of_R (.bsl _ _ _ _ b cap ?_ ?_ hle hmx (by omega)) rfl⟩
      · show (if _ = _ then _ else _) = _; rw [if_pos rfl]
      · show (if _ = _ then _ else _) = _; rw [if_pos rfl]
  · cases q

end Go.Proofs.Ytjikokmhknnnoaa
